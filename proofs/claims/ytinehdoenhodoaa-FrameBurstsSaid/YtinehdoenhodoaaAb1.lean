import Derived.RangeFuncLeaves
import Derived.RangeFuncIn
import Derived.LoopNIn
import Derived.OrdersIn
import Derived.Laws.Append
import Derived.Below
/-! An abstract reading of the model's code: values without real addresses and capacities, a heap of rows; one order of evaluation. -/
namespace Go.Ab

inductive AV where
  | undef
  | bool (b : Bool)
  | int (k : IntKind) (n : Int)
  | str (s : ByteArray)
  | ptr (a : Option (Nat × Nat))
  | slice (a : Option (Nat × Nat)) (len : Nat) (cap : Option Nat) (sz : Nat)
  | func (f : FuncId) (first caps : List AV)
  | yield (l : Nat)
  | nilFunc
  | nilIface
  | iface (t : TypeId) (v : AV)
  | agg (l : List AV)
  | tuple (l : List AV)

inductive Md where
  | rw | ro | dead
  deriving DecidableEq

/-- The code, without what the reading does not look at. -/
structure AO where
  dst : Option Tmp
  op : Op
  ty : TypeId
  guard : Option (Option Tmp)
  want : Bool

inductive AC where
  | skip
  | region (ops : List AO)
  | draw (ops : Array Oper) (ord : List Nat) (anc : List (List Nat))
  | seq (a b : AC)
  | cond (c : Operand) (t e : AC)
  | block (id : Nat) (b : AC)
  | loop (keep : List Bool) (b : AC)
  | range (g : Operand) (ps : Array Tmp) (assign body : AC)
  | exit (id : Nat)
  | ret
  | bad

/-- A block. -/
inductive AB where
  | cells (l : List AV) (md : Md)
  | loop (st : LoopState) (pending : Option Code) (env : List AV) (ps : Array Tmp) (assign body : AC) (d : Nat)
  | deferred (taken : Bool)

abbrev AH := List AB

def AB.own : AB → Bool
  | .cells _ .rw => true
  | .cells _ _ => false
  | _ => true
def AB.isDead : AB → Bool
  | .cells _ .dead => true
  | _ => false

/-- Scalars of the model, read. -/
def ofS : Value → AV
  | .bool b => .bool b
  | .int k n => .int k n
  | .string s => .str s
  | .pointer none => .ptr none
  | .slice none 0 0 => .slice none 0 (some 0) 0
  | .nilFunc => .nilFunc
  | .nilIface => .nilIface
  | _ => .undef
def ofV : Value → AV
  | .agg cs => .agg (cs.toList.map ofS)
  | v => ofS v

inductive TD where
  | bool | int (k : IntKind) | string | ptr (e : Nat) | slice (e : Nat) | array (n e : Nat) | struct (fs : List (Nat × Nat)) | func | iface | other
structure TI where
  sz : Nat
  by_ : Nat
  zero : List AV
  td : TD

structure AFn where
  ntmps : Nat
  results : List ResultVar
  body : AC

/-- The tables: types, functions, functions that are told by a contract. -/
structure AP where
  ty : Nat → Option TI
  fn : Nat → Option AFn
  prim : Nat → Option (List AV → Nat → AH → Option (AV × AH))

def AV.cells : AV → Option (List AV)
  | .undef => none
  | .agg l => some l
  | .tuple _ => none
  | v => some [v]

def TD.isAgg : TD → Bool
  | .struct _ | .array _ _ => true
  | _ => false

def get (env : List AV) (t : Nat) : AV := (env[t]?).getD .undef

def opd (env : List AV) : Operand → AV
  | .tmp t => get env t
  | .const v => ofV v
  | .global _ => .undef
  | .func f => .func f [] []

/-! ### memory -/

/-- The cells of a living block. -/
def rowOf (H : AH) (b : Nat) : Option (List AV) :=
  match H[b]? with
  | some (.cells l .rw) => some l
  | some (.cells l .ro) => some l
  | _ => none
/-- The cells of a block that may be written. -/
def rowRw (H : AH) (lo b : Nat) : Option (List AV) :=
  if b < lo then none else
  match H[b]? with
  | some (.cells l .rw) => some l
  | _ => none

def splice (l : List AV) (o : Nat) (xs : List AV) : List AV := l.take o ++ xs ++ l.drop (o + xs.length)

def part (ag : Bool) (sz : Nat) (l : List AV) (o : Nat) : Option AV :=
  if ag then (if o + sz ≤ l.length then some (.agg ((l.drop o).take sz)) else none) else l[o]?

/-- A value of one cell. -/
def AV.one : AV → Bool
  | .undef | .agg _ | .tuple _ => false
  | _ => true

def isSlice : AV → Bool
  | .slice .. => true
  | _ => false

def aload (ap : AP) (H : AH) (t : TypeId) : AV → Option AV
  | .ptr (some (b, o)) => (ap.ty t).bind fun ti => (rowOf H b).bind fun l => part ti.td.isAgg ti.sz l o
  | _ => none
def astore (ap : AP) (lo : Nat) (H : AH) (t : TypeId) (p v : AV) : Option AH :=
  match p with
  | .ptr (some (b, o)) => (ap.ty t).bind fun ti => v.cells.bind fun cs => (rowRw H lo b).bind fun l =>
    if cs.length = ti.sz ∧ o + cs.length ≤ l.length ∧ cs.all AV.one = true then some (H.set b (.cells (splice l o cs) .rw)) else none
  | _ => none

def afill (place : Nat → Option (Nat × Nat)) : List AV → List (Nat × AV) → Option (List AV)
  | cells, [] => some cells
  | cells, (i, v) :: rest => (place i).bind fun p => v.cells.bind fun cs =>
    if cs.length = p.2 ∧ p.1 + cs.length ≤ cells.length then afill place (splice cells p.1 cs) rest else none

/-- The cells of a slice's first n elements. -/
def firstC (H : AH) (sz n : Nat) : AV → Option (List AV)
  | .slice (some (b, o)) _ _ _ => (rowOf H b).bind fun l => if o + n * sz ≤ l.length then some ((l.drop o).take (n * sz)) else none
  | .slice none _ _ _ => some []
  | .str s => some ((s.data.toList.take n).map fun x => .int .u8 x.toNat)
  | _ => none
def lenOf : AV → Option Nat
  | .slice _ n _ _ => some n
  | .str s => some s.size
  | _ => none

def szOk (sz : Nat) : AV → Bool
  | .slice (some _) _ _ s => s == sz
  | .slice none _ _ _ => true
  | .str _ => sz == 1
  | _ => false

/-- The greatest row that append may make. -/
def room : Nat := 140737488355328

def aappend (lo : Nat) (H : AH) (sz by_ : Nat) (s x : AV) : Option (AV × AH) :=
  if szOk sz s && szOk sz x && (0 < sz && 0 < by_) then
    (lenOf x).bind fun n => (firstC H sz n x).bind fun xs => if xs.all AV.one = false then none else
    match s with
    | .slice none len _ _ =>
      if len ≠ 0 then none else
      if n = 0 then some (.slice none 0 (some 0) sz, H)
      else if n * by_ ≤ room then some (.slice (some (H.length, 0)) n none sz, H ++ [.cells xs .rw]) else none
    | .slice (some (b, o)) len cap _ =>
      if n = 0 then some (s, H) else
      (rowOf H b).bind fun l =>
      if o + len * sz ≤ l.length then
        match cap with
        | some c =>
          if len + n ≤ c then
            (rowRw H lo b).bind fun l => if o + (len + n) * sz ≤ l.length then some (.slice (some (b, o)) (len + n) (some c) sz, H.set b (.cells (splice l (o + len * sz) xs) .rw)) else none
          else if (len + n) * by_ ≤ room then some (.slice (some (H.length, 0)) (len + n) none sz, H ++ [.cells ((l.drop o).take (len * sz) ++ xs) .rw]) else none
        | none =>
          if (len + n) * by_ ≤ room then
            (rowRw H lo b).bind fun l =>
              if o + (len + n) * sz ≤ l.length then some (.slice (some (b, o)) (len + n) none sz, H.set b (.cells (splice l (o + len * sz) xs) .rw))
              else some (.slice (some (H.length, 0)) (len + n) none sz, H.set b (.cells [] .dead) ++ [.cells ((l.drop o).take (len * sz) ++ xs) .rw])
          else none
      else none
    | _ => none
  else none

/-- append's second half: what is added is known. -/
def aappendC (lo : Nat) (H : AH) (sz by_ : Nat) (s : AV) (n : Nat) (xs : List AV) : Option (AV × AH) :=
    match s with
    | .slice none len _ _ =>
      if len ≠ 0 then none else
      if n = 0 then some (.slice none 0 (some 0) sz, H)
      else if n * by_ ≤ room then some (.slice (some (H.length, 0)) n none sz, H ++ [.cells xs .rw]) else none
    | .slice (some (b, o)) len cap _ =>
      if n = 0 then some (s, H) else
      (rowOf H b).bind fun l =>
      if o + len * sz ≤ l.length then
        match cap with
        | some c =>
          if len + n ≤ c then
            (rowRw H lo b).bind fun l => if o + (len + n) * sz ≤ l.length then some (.slice (some (b, o)) (len + n) (some c) sz, H.set b (.cells (splice l (o + len * sz) xs) .rw)) else none
          else if (len + n) * by_ ≤ room then some (.slice (some (H.length, 0)) (len + n) none sz, H ++ [.cells ((l.drop o).take (len * sz) ++ xs) .rw]) else none
        | none =>
          if (len + n) * by_ ≤ room then
            (rowRw H lo b).bind fun l =>
              if o + (len + n) * sz ≤ l.length then some (.slice (some (b, o)) (len + n) none sz, H.set b (.cells (splice l (o + len * sz) xs) .rw))
              else some (.slice (some (H.length, 0)) (len + n) none sz, H.set b (.cells [] .dead) ++ [.cells ((l.drop o).take (len * sz) ++ xs) .rw])
          else none
      else none
    | _ => none

theorem aappend_eq (lo : Nat) (H : AH) (sz by_ : Nat) (s x : AV) : aappend lo H sz by_ s x = if szOk sz s && szOk sz x && (0 < sz && 0 < by_) then
    (lenOf x).bind fun n => (firstC H sz n x).bind fun xs => if xs.all AV.one = false then none else aappendC lo H sz by_ s n xs else none := rfl
/-- append(s, make([]T, n)...): so many noughts. -/
def aappendZ (lo : Nat) (H : AH) (te : TI) (s : AV) : AV → Option (AV × AH)
  | .int .i64 m => if (szOk te.sz s && (0 < te.sz && 0 < te.by_)) && (decide (0 ≤ m) && decide (m.toNat * te.by_ ≤ room)) && te.zero.all AV.one then aappendC lo H te.sz te.by_ s m.toNat (List.replicate m.toNat te.zero).flatten else none
  | _ => none

def acopy (lo : Nat) (H : AH) (sz : Nat) (d s : AV) : Option (AV × AH) :=
  if szOk sz d && szOk sz s && 0 < sz then
    (lenOf s).bind fun m => (lenOf d).bind fun k => let n := min m k
    (firstC H sz n s).bind fun xs => if xs.all AV.one = false then none else
    match d with
    | .slice none _ _ _ => some (.int .i64 n, H)
    | .slice (some (b, o)) _ _ _ =>
      if xs = [] then some (.int .i64 n, H) else
      (rowRw H lo b).bind fun l => if o + xs.length ≤ l.length then some (.int .i64 n, H.set b (.cells (splice l o xs) .rw)) else none
    | _ => none
  else none

/-- A bound of a slice. -/
def abound (y : Nat) : AV → Option Nat
  | .int _ i => if 0 ≤ i ∧ i ≤ y then some i.toNat else none
  | _ => none

def aslice (H : AH) (sz : Nat) (x : AV) (low high max : Option AV) : Option AV :=
  match x with
  | .str s =>
    match max with
    | some _ => none
    | none =>
      (match high with | some v => abound s.size v | none => some s.size).bind fun h =>
      (match low with | some v => abound h v | none => some 0).bind fun l => some (.str (s.extract l h))
  | .slice none len _ _ =>
    if len ≠ 0 then none else
    (match max with | some v => abound 0 v | none => some 0).bind fun _ =>
    (match high with | some v => abound 0 v | none => some 0).bind fun _ =>
    (match low with | some v => abound 0 v | none => some 0).bind fun _ =>
    if max.isSome && high.isNone then none else some (.slice none 0 (some 0) sz)
  | .slice (some (b, o)) len cap s =>
    if s ≠ sz then none else
    match max, high with
    | none, none =>
      (match low with | some v => abound len v | none => some 0).bind fun l =>
      some (.slice (some (b, o + l * sz)) (len - l) (cap.map (· - l)) sz)
    | none, some hv =>
      (match cap with
       | some c => abound c hv
       | none => (abound len hv).orElse fun _ => (rowOf H b).bind fun r => (abound r.length hv).bind fun h => if o + h * sz ≤ r.length then some h else none).bind fun h =>
      (match low with | some v => abound h v | none => some 0).bind fun l =>
      some (.slice (some (b, o + l * sz)) (h - l) (cap.map (· - l)) sz)
    | some mv, some hv =>
      (match cap with
       | some c => abound c mv
       | none => abound len mv).bind fun m =>
      (abound m hv).bind fun h =>
      (match low with | some v => abound h v | none => some 0).bind fun l =>
      some (.slice (some (b, o + l * sz)) (h - l) (some (m - l)) sz)
    | some _, none => none
  | _ => none

/-! ### numbers -/
def arith (op : BinOp) (k : IntKind) (x y : Int) : Option AV :=
  match op with
  | .add => some (.int k (k.wrap (x + y)))
  | .sub => some (.int k (k.wrap (x - y)))
  | .mul => some (.int k (k.wrap (x * y)))
  | .quo => if y = 0 then none else some (.int k (k.wrap (x.tdiv y)))
  | .rem => if y = 0 then none else some (.int k (x.tmod y))
  | .and => some (.int k (k.wrap (BitVec.ofInt k.bits x &&& BitVec.ofInt k.bits y).toNat))
  | .or => some (.int k (k.wrap (BitVec.ofInt k.bits x ||| BitVec.ofInt k.bits y).toNat))
  | .xor => some (.int k (k.wrap (BitVec.ofInt k.bits x ^^^ BitVec.ofInt k.bits y).toNat))
  | .eql => some (.bool (x == y))
  | .neq => some (.bool (x != y))
  | .lss => some (.bool (decide (x < y)))
  | .leq => some (.bool (decide (x ≤ y)))
  | .gtr => some (.bool (decide (x > y)))
  | .geq => some (.bool (decide (x ≥ y)))
  | _ => none
def shift (op : BinOp) (k : IntKind) (x y : Int) : Option AV :=
  if y < 0 then none else
  match op with
  | .shl => some (.int k (k.wrap (x * 2 ^ (min y.toNat k.bits))))
  | .shr => some (.int k (x.fdiv (2 ^ (min y.toNat k.bits))))
  | _ => none
def strOp (op : BinOp) (x y : ByteArray) : Option AV :=
  match op with
  | .add => if ((x.size + y.size : Nat) : Int) > 9223372036854775807 then none else some (.str (x ++ y))
  | .eql => some (.bool (x.toList == y.toList))
  | .neq => some (.bool (!(x.toList == y.toList)))
  | _ => none
/-- Equality of scalars of a type. -/
def eqC (ap : AP) (t : TypeId) (x y : AV) : Option Bool :=
  match ap.ty t with
  | some ti => match ti.td, x, y with
    | .bool, .bool a, .bool b => some (a == b)
    | .int _, .int k a, .int k' b => if k = k' then some (a == b) else none
    | .string, .str a, .str b => some (a.toList == b.toList)
    | _, _, _ => none
  | none => none
/-- A struct whose fields are scalars, one cell each, from n on. -/
def eqF (ap : AP) : Nat → List (Nat × Nat) → List AV → List AV → Option Bool
  | _, [], [], [] => some true
  | n, (o, t) :: r, a :: l, b :: m => if o = n then (eqC ap t a b).bind fun q => (eqF ap (n + 1) r l m).bind fun s => some (q && s) else none
  | _, _, _, _ => none

def eqV (ap : AP) (t : TypeId) (x y : AV) : Option Bool :=
  match ap.ty t with
  | some ti => match ti.td, x, y with
    | .bool, .bool a, .bool b => some (a == b)
    | .struct fs, .agg l, .agg m => eqF ap 0 fs l m
    | .ptr _, .ptr none, .ptr b => some b.isNone
    | .ptr _, .ptr (some _), .ptr none => some false
    | .slice _, .slice none _ _ _, .slice b _ _ _ => some b.isNone
    | .slice _, .slice (some _) _ _ _, .slice none _ _ _ => some false
    | .func, .nilFunc, .nilFunc => some true
    | .func, .nilFunc, .func _ _ _ => some false
    | .func, .func _ _ _, .nilFunc => some false
    | .iface, .nilIface, .iface _ _ => some false
    | .iface, .iface _ _, .nilIface => some false
    | _, _, _ => none
  | none => none

def abin (ap : AP) (op : BinOp) (t : TypeId) (x y : AV) : Option AV :=
  match x, y with
  | .int k a, .int k' b =>
    if op = .shl ∨ op = .shr then shift op k a b else if k = k' then arith op k a b else none
  | .str a, .str b => strOp op a b
  | x, y => match op with
    | .eql => (eqV ap t x y).map .bool
    | .neq => (eqV ap t x y).map fun b => .bool (!b)
    | _ => none

def aun (op : UnOp) (x : AV) : Option AV :=
  match op, x with
  | .neg, .int k n => arith .sub k 0 n
  | .xor, .int k n => arith .xor k (if k.signed then -1 else k.max) n
  | .not, .bool b => some (.bool (!b))
  | _, _ => none

def numsAV : List AV → Option (List Int)
  | [] => some []
  | .int .u8 n :: r => (numsAV r).map (n :: ·)
  | _ => none
/-- A string of numbers. -/
def strN (ns : List Int) : ByteArray := ⟨(ns.map fun n => UInt8.ofNat n.toNat).toArray⟩

def isU8 (ap : AP) (e : TypeId) : Bool :=
  match ap.ty e with
  | some ti => match ti.td with
    | .int .u8 => true
    | _ => false
  | none => false
def aconvert (ap : AP) (lo : Nat) (H : AH) (src dst : TypeId) (x : AV) : Option (AV × AH) :=
  (ap.ty src).bind fun ts => (ap.ty dst).bind fun td =>
  match ts.td, td.td, x with
  | .int _, .int k, .int _ n => some (.int k (k.wrap n), H)
  | .string, .string, .str s => some (.str s, H)
  | .string, .slice e, .str s =>
    if isU8 ap e then some (.slice (some (H.length, 0)) s.size none 1, H ++ [.cells (s.data.toList.map fun b => AV.int .u8 b.toNat) .rw]) else none
  | .slice e, .string, .slice a len _ s =>
    if isU8 ap e then
      match a with
      | none => some (.str .empty, H)
      | some _ => if s = 1 then (firstC H 1 len x).bind fun l => (numsAV l).map fun ns => (AV.str (strN ns), H) else none
    else none
  | .slice _, .slice e, .slice (some (b, o)) len cap s =>
    if (src == dst && isU8 ap e) && 0 < len then (rowRw H lo b).map fun _ => (AV.slice (some (b, o)) len cap s, H) else none
  | _, _, _ => none

def amm1 (op : Bool) (k : IntKind) : Int → List AV → Option AV
  | x, [] => some (.int k x)
  | x, .int _ y :: r => amm1 op k (if op then (if y > x then y else x) else (if y < x then y else x)) r
  | _, _ => none
def amm (op : Bool) : List AV → Option AV
  | .int k x :: r => amm1 op k x r
  | _ => none

def apT (ap : AP) (t : Option TypeId) : Bool :=
  match t.bind ap.ty with
  | some ti => match ti.td with
    | .slice _ | .string => true
    | _ => false
  | none => false

def apI (ap : AP) (t : Option TypeId) : Bool :=
  match t.bind ap.ty with
  | some ti => match ti.td with
    | .int .i64 => true
    | _ => false
  | none => false

def abuiltin (ap : AP) (lo : Nat) (H : AH) (b : Builtin) (ts : Array TypeId) (xs : List AV) : Option (AV × AH) :=
  match b, xs with
  | .len, [x] => (ts[0]?).bind fun t => (ap.ty t).bind fun ti =>
    match ti.td, x with
    | .string, .str s => some (.int .i64 s.size, H)
    | .slice _, .slice _ n _ _ => some (.int .i64 n, H)
    | .array n _, _ => some (.int .i64 n, H)
    | _, _ => none
  | .cap, [x] => (ts[0]?).bind fun t => (ap.ty t).bind fun ti =>
    match ti.td, x with
    | .slice _, .slice (some _) _ (some c) _ => some (.int .i64 c, H)
    | .slice _, .slice none _ _ _ => some (.int .i64 0, H)
    | _, _ => none
  | .append, [s, x] => (ts[0]?).bind fun t => (ap.ty t).bind fun ti =>
    match ti.td with
    | .slice e => (ap.ty e).bind fun te => if apT ap ts[1]? then aappend lo H te.sz te.by_ s x else if apI ap ts[1]? then aappendZ lo H te s x else none
    | _ => none
  | .copy, [d, s] => (ts[0]?).bind fun t => (ap.ty t).bind fun ti =>
    match ti.td with
    | .slice e => (ap.ty e).bind fun te => acopy lo H te.sz d s
    | _ => none
  | .max, xs => (amm true xs).map (·, H)
  | .min, xs => (amm false xs).map (·, H)
  | .clear, [x] => (ts[0]?).bind fun t => (ap.ty t).bind fun ti =>
    match ti.td, x with
    | .slice _, .slice none _ _ _ => some (.tuple [], H)
    | .slice e, .slice (some (b, o)) n _ s => (ap.ty e).bind fun te => if s ≠ te.sz then none else
      if n = 0 then some (.tuple [], H) else
      (rowRw H lo b).bind fun l => if o + n * s ≤ l.length ∧ te.zero.all AV.one = true then some (.tuple [], H.set b (.cells (splice l o (List.replicate n te.zero).flatten) .rw)) else none
    | _, _ => none
  | _, _ => none

def optAll (env : List AV) : Option Operand → Option AV := Option.map (opd env)

/-- An operation that is no call of a function. -/
def aop (ap : AP) (lo : Nat) (env : List AV) (H : AH) : Op → Option (AV × AH)
  | .move x | .assign x => some (opd env x, H)
  | .pick c a b => match opd env c with | .bool t => some (if t then opd env a else opd env b, H) | _ => none
  | .alloc e => (ap.ty e).map fun ti => (AV.ptr (some (H.length, 0)), H ++ [AB.cells ti.zero .rw])
  | .box _ x => (opd env x).cells.map fun cs => (AV.ptr (some (H.length, 0)), H ++ [AB.cells cs .rw])
  | .build t parts => (ap.ty t).bind fun ti =>
    match ti.td with
    | .struct fs => if fs.all (fun f => (ap.ty f.2).isSome) = false then none else (afill (fun i => (fs[i]?).bind fun f => (ap.ty f.2).map fun tf => (f.1, tf.sz)) ti.zero (parts.toList.map fun p => (p.1, opd env p.2))).map fun cs => (AV.agg cs, H)
    | .array _ e => (ap.ty e).bind fun te => (afill (fun i => some (i * te.sz, te.sz)) ti.zero (parts.toList.map fun p => (p.1, opd env p.2))).map fun cs => (AV.agg cs, H)
    | _ => none
  | .buildSlice t len parts => (ap.ty t).bind fun ti =>
    match ti.td with
    | .slice e => (ap.ty e).bind fun te => if te.sz = 0 ∨ len * te.sz > 65536 then none else
      (afill (fun i => some (i * te.sz, te.sz)) (List.replicate len te.zero).flatten (parts.toList.map fun p => (p.1, opd env p.2))).map fun cs => (AV.slice (some (H.length, 0)) len (some len) te.sz, H ++ [AB.cells cs .rw])
    | _ => none
  | .load t a => (aload ap H t (opd env a)).map (·, H)
  | .store t a x => (astore ap lo H t (opd env a) (opd env x)).map fun h => (AV.undef, h)
  | .nilCheck x => match opd env x with
    | .ptr (some a) => some (.ptr (some a), H)
    | .func f a b => some (.func f a b, H)
    | .yield l => some (.yield l, H)
    | .slice a n c s => some (.slice a n c s, H)
    | _ => none
  | .binOp op t x y _ => (abin ap op t (opd env x) (opd env y)).map (·, H)
  | .unOp op _ x => (aun op (opd env x)).map (·, H)
  | .convert s d x => aconvert ap lo H s d (opd env x)
  | .makeInterface t x => (ap.ty t).bind fun ti => match ti.td with | .iface | .other => none | _ => some (.iface t (opd env x), H)
  | .makeFunc (.func f) first caps => some (.func f (first.toList.map (opd env)) (caps.toList.map (opd env)), H)
  | .makeSlice t l c => (ap.ty t).bind fun ti =>
    match ti.td with
    | .slice e => (ap.ty e).bind fun te =>
      match opd env l, opd env c with
      | .int .i64 n, .int .i64 m => if 0 ≤ n ∧ n ≤ m ∧ m * te.by_ ≤ room ∧ m ≤ 9223372036854775807 ∧ 0 < te.sz then some (.slice (some (H.length, 0)) n.toNat (some m.toNat) te.sz, H ++ [.cells (List.replicate m.toNat te.zero).flatten .rw]) else none
      | _, _ => none
    | _ => none
  | .slice t x lo' hi mx => (ap.ty t).bind fun ti =>
    match ti.td with
    | .slice e => (ap.ty e).bind fun te => if te.sz = 0 then none else if isSlice (opd env x) then (aslice H te.sz (opd env x) (optAll env lo') (optAll env hi) (optAll env mx)).map (·, H) else none
    | .string => if isSlice (opd env x) then none else (aslice H 1 (opd env x) (optAll env lo') (optAll env hi) (optAll env mx)).map (·, H)
    | _ => none
  | .fieldAddr t x f => (ap.ty t).bind fun ti =>
    match ti.td, opd env x with
    | .struct fs, .ptr (some (b, o)) => (fs[f]?).bind fun fd => (ap.ty fd.2).bind fun tf => if tf.sz = 0 then none else some (.ptr (some (b, o + fd.1)), H)
    | _, _ => none
  | .field t x f => (ap.ty t).bind fun ti =>
    match ti.td, opd env x with
    | .struct fs, .agg l => (fs[f]?).bind fun fd => (ap.ty fd.2).bind fun tf => (part tf.td.isAgg tf.sz l fd.1).map (·, H)
    | _, _ => none
  | .indexAddr t x i => (ap.ty t).bind fun ti =>
    match ti.td, opd env x, opd env i with
    | .slice e, .slice (some (b, o)) len _ s, .int _ i => (ap.ty e).bind fun te => if s = te.sz ∧ 0 ≤ i ∧ i < len then some (.ptr (some (b, o + i.toNat * te.sz)), H) else none
    | .array n e, .ptr (some (b, o)), .int _ i => (ap.ty e).bind fun te => if 0 ≤ i ∧ i < n then some (.ptr (some (b, o + i.toNat * te.sz)), H) else none
    | _, _, _ => none
  | .index t x i => (ap.ty t).bind fun ti =>
    match ti.td, opd env x, opd env i with
    | .string, .str s, .int _ i => if 0 ≤ i then (s.data.toList[i.toNat]?).map fun c => (AV.int .u8 c.toNat, H) else none
    | .array n e, .agg l, .int _ i => (ap.ty e).bind fun te => if 0 ≤ i ∧ i < n then (part te.td.isAgg te.sz l (i.toNat * te.sz)).map (·, H) else none
    | _, _, _ => none
  | .extract x i => match opd env x with | .tuple l => (l[i]?).map (·, H) | _ => none
  | .call c => match c.callee with
    | .builtin b => abuiltin ap lo H b c.argTypes (c.args.toList.map (opd env))
    | _ => none
  | _ => none

/-! ### code -/
structure St where
  env : List AV
  H : AH
  marks : List Nat

inductive Ex where
  | normal | exit (id : Nat) | ret

def setD (env : List AV) : Option Tmp → AV → List AV
  | some d, v => env.set d v
  | none, _ => env

/-- How functions are called: the function, the arguments, what may be written from where on, the heap. -/
abbrev CallF := AV → List AV → Nat → AH → Option (AV × AH)

def callee (c : Call) : Option Operand :=
  match c.callee with
  | .value f => some f
  | _ => none
def aoper (ap : AP) (cf : CallF) (lo : Nat) (env : List AV) (H : AH) (o : Op) : Option (AV × AH) :=
  match o with
  | .call c => match callee c with
    | some f => cf (opd env f) (c.args.toList.map (opd env)) lo H
    | none => aop ap lo env H (.call c)
  | o => aop ap lo env H o

def wantedA (env : List AV) (g : Option (Option Tmp)) (want : Bool) : Option Bool :=
  match g with
  | none => some true
  | some none => none
  | some (some d) => match get env d with | .bool b => some (b == want) | .tuple [] => some false | _ => none

def evOps (ap : AP) (cf : CallF) (lo : Nat) : List AO → List AV → AH → Option (List AV × AH)
  | [], env, H => some (env, H)
  | o :: r, env, H => (wantedA env o.guard o.want).bind fun t =>
    if t then (aoper ap cf lo env H o.op).bind fun (v, H) => evOps ap cf lo r (setD env o.dst v) H
    else evOps ap cf lo r (setD env o.dst (.tuple [])) H

/-! ### a region whose order is drawn -/
mutual
def sameV : AV → AV → Bool
  | .undef, .undef => true
  | .bool a, .bool b => a == b
  | .int k a, .int k' b => decide (k = k') && decide (a = b)
  | .str a, .str b => a.data.toList == b.data.toList
  | .ptr a, .ptr b => decide (a = b)
  | .slice a l c s, .slice a' l' c' s' => decide (a = a') && (decide (l = l') && (decide (c = c') && decide (s = s')))
  | .func f a b, .func f' a' b' => decide (f = f') && (sameL a a' && sameL b b')
  | .yield l, .yield l' => decide (l = l')
  | .nilFunc, .nilFunc => true
  | .nilIface, .nilIface => true
  | .iface t v, .iface t' v' => decide (t = t') && sameV v v'
  | .agg a, .agg b => sameL a b
  | .tuple a, .tuple b => sameL a b
  | _, _ => false
def sameL : List AV → List AV → Bool
  | [], [] => true
  | a :: l, b :: m => sameV a b && sameL l m
  | _, _ => false
end

/-- What the operation waits for. -/
def edges (o : Oper) : List Nat := o.after.toList.filterMap fun e => if Region.binds .any e then some e.on else none
/-- Kinds of operations: of no memory; one that reads; one that makes a block; one that may turn memory. -/
inductive Cl where
  | q | h | a | e
  deriving DecidableEq
def cls (ap : AP) : Op → Cl
  | .move _ | .assign _ | .pick .. | .build .. | .nilCheck _ | .binOp .. | .unOp .. | .makeInterface .. | .makeFunc .. | .fieldAddr .. | .field .. | .indexAddr .. | .index .. | .extract .. => .q
  | .load .. | .slice .. => .h
  | .convert _ d _ => match (ap.ty d).map TI.td with
    | some (.slice _) => .e
    | _ => .h
  | .call c => match c.callee with
    | .builtin .len | .builtin .cap | .builtin .min | .builtin .max => .q
    | _ => .e
  | .alloc _ | .box .. | .buildSlice .. | .makeSlice .. => .a
  | _ => .e
def isCl (ap : AP) (ops : List Oper) (c : Cl) (i : Nat) : Bool :=
  match ops[i]? with
  | some o => decide (cls ap o.op = c)
  | none => false

def writer (ops : List Oper) (t : Nat) : Option Nat := ops.findIdx? fun o => o.dst == some t
/-- What an operation sees. -/
def envM (ops : List Oper) (env : List AV) (vals : Nat → AV) (o : Oper) : List AV :=
  env.mapIdx fun t v => if (o.looksAt ops.toArray).contains t then
    match writer ops t with
    | some j => if (edges o).contains j then vals j else v
    | none => v
    else .undef
def wantedM (ops : List Oper) (m : List AV) (o : Oper) : Option Bool :=
  wantedA m (o.guard.map fun g => (ops.toArray[g.1]?).bind (·.dst)) ((o.guard.map (·.2)).getD true)

def dead0 : AB := .cells [] .dead
def isDeadB (x : Option AB) : Bool :=
  match x with
  | some (.cells [] .dead) => true
  | _ => false
structure DS where
  vals : Nat → AV
  cur : AH
  prev : List AH
def setF (f : Nat → AV) (i : Nat) (v : AV) : Nat → AV := fun k => if k = i then v else f k

def drawStep (ap : AP) (cf : CallF) (lo : Nat) (ops : List Oper) (env : List AV) (base i : Nat) (s : DS) : Option DS :=
  (ops[i]?).bind fun o => (wantedM ops (envM ops env s.vals o) o).bind fun t =>
  if t then
    match cls ap o.op with
    | .q | .h => (aop ap lo (envM ops env s.vals o) s.cur o.op).map fun r => ⟨setF s.vals i r.1, s.cur, s.prev⟩
    | .a => (aop ap lo (envM ops env s.vals o) (List.replicate (base + i) dead0) o.op).bind fun r => (r.2[base + i]?).bind fun A =>
      if (s.prev ++ [s.cur]).all fun H => isDeadB H[base + i]? then some ⟨setF s.vals i r.1, s.cur.set (base + i) A, s.prev⟩ else none
    | .e => (aoper ap cf lo (envM ops env s.vals o) s.cur o.op).map fun r => ⟨setF s.vals i r.1, r.2, s.prev ++ [s.cur]⟩
  else if isCl ap ops .e i then some ⟨setF s.vals i (.tuple []), s.cur, s.prev ++ [s.cur]⟩
  else if isCl ap ops .a i then
    (if (s.prev ++ [s.cur]).all fun H => isDeadB H[base + i]? then some ⟨setF s.vals i (.tuple []), s.cur, s.prev⟩ else none)
  else some ⟨setF s.vals i (.tuple []), s.cur, s.prev⟩
def drawGo (ap : AP) (cf : CallF) (lo : Nat) (ops : List Oper) (env : List AV) (base : Nat) : List Nat → DS → Option DS
  | [], s => some s
  | i :: r, s => (drawStep ap cf lo ops env base i s).bind (drawGo ap cf lo ops env base r)

/-- The place among the operations that may turn memory: how many of them stand ahead. -/
def stOf (ap : AP) (ops : List Oper) : List Nat → Nat → Nat
  | [], _ => 0
  | j :: r, i => if j = i then 0 else (if isCl ap ops .e j then 1 else 0) + stOf ap ops r i
def nE (ap : AP) (ops : List Oper) : List Nat → Nat
  | [] => 0
  | j :: r => (if isCl ap ops .e j then 1 else 0) + nE ap ops r
/-- What it waits for, also through others. -/
def ancOf (anc : List (List Nat)) (i : Nat) : List Nat := (anc[i]?).getD []
/-- Between which of them it may stand. -/
def inWin (ap : AP) (ops : List Oper) (ord : List Nat) (anc : List (List Nat)) (i j : Nat) : Bool :=
  (ancOf anc i).all (fun e => !isCl ap ops .e e || decide (stOf ap ops ord e < j)) &&
    ord.all fun e => !(isCl ap ops .e e && (ancOf anc e).contains i) || decide (j ≤ stOf ap ops ord e)
/-- What of the order alone is asked. -/
def ordOk (ap : AP) (ops : List Oper) (ord : List Nat) (anc : List (List Nat)) : Bool :=
  decide ord.Nodup && decide (ord.length = ops.length) && (List.range ops.length).all (fun i => ord.contains i) && ord.all (fun i => decide (i < ops.length)) &&
  -- what an operation waits for stands ahead; each temporary has one writer; what is read is of what is waited for, or from ahead
  (List.range ops.length).all fun i => match ops[i]? with
    | none => false
    | some o =>
      (edges o).all (fun e => decide (e < ops.length) && decide (ord.idxOf e < ord.idxOf i)) &&
      (match o.dst with | some t => writer ops t == some i | none => true) &&
      (o.looksAt ops.toArray).all (fun t => match writer ops t with
        | none => true
        | some j => j == i || (edges o).contains j || (match ops[j]? with | some p => (edges p).contains i | none => false)) &&
      (ancOf anc i).all (fun j => (edges o).contains j || (edges o).any fun e => (ancOf anc e).contains j) &&
      -- those that may turn memory stand in one row; one that makes a block is waited for by the next of them
      ((!isCl ap ops .e i) || (List.range ops.length).all (fun j => !(isCl ap ops .e j && decide (stOf ap ops ord j + 1 = stOf ap ops ord i)) || (ancOf anc i).contains j)) &&
      ((!isCl ap ops .a i) || (List.range ops.length).all (fun j => !(isCl ap ops .e j && decide (stOf ap ops ord j = stOf ap ops ord i)) || (ancOf anc j).contains i))
def winOk (ap : AP) (lo : Nat) (ops : List Oper) (env : List AV) (ord : List Nat) (anc : List (List Nat)) (vals : Nat → AV) (Fs : List AH) : Bool :=
  ord.all fun i => match ops[i]? with
    | none => false
    | some o => if isCl ap ops .h i && (wantedM ops (envM ops env vals o) o == some true) then
        Fs.zipIdx.all fun x => !inWin ap ops ord anc i x.2 || (match aop ap lo (envM ops env vals o) x.1 o.op with | some r => sameV r.1 (vals i) | none => false)
      else true
def envF (ops : List Oper) (env : List AV) (vals : Nat → AV) (D : Nat → Bool) : List AV :=
  env.mapIdx fun t v => match writer ops t with
    | some j => if D j then vals j else v
    | none => v
def evDraw (ap : AP) (cf : CallF) (lo : Nat) (ops : Array Oper) (ord : List Nat) (anc : List (List Nat)) (env : List AV) (H : AH) : Option (List AV × AH) :=
  if ordOk ap ops.toList ord anc then
    (drawGo ap cf lo ops.toList env H.length ord ⟨fun _ => .undef, H ++ List.replicate ops.size dead0, []⟩).bind fun s =>
    if winOk ap lo ops.toList env ord anc s.vals (s.prev ++ [s.cur]) then some (envF ops.toList env s.vals (fun _ => true), s.cur) else none
  else none

/-- What is not read any more is forgotten. -/
def mask : List Bool → List AV → List AV
  | true :: m, v :: e => v :: mask m e
  | false :: m, _ :: e => .undef :: mask m e
  | _, e => e

def evLoop (f : St → Option (Ex × St)) : Nat → St → Option (Ex × St)
  | 0, _ => none
  | k + 1, s => (f s).bind fun (x, s) =>
    match x with
    | .normal => evLoop f k s
    | x => some (x, s)

def jumpEx : Code → Option Ex
  | .ret => some .ret
  | .exit id => some (.exit id)
  | _ => none

def isFunc : AV → Bool
  | .func .. => true
  | _ => false
/-- Entering a loop over a function: the block for deferred calls, the heap, the marks. -/
def enterA (rd : Option Nat) (s : St) : Option (Nat × AH × List Nat) :=
  match rd with
  | none => some (s.H.length, s.H ++ [AB.deferred false], s.H.length :: s.marks)
  | some l => match s.H[l]? with
    | some (AB.loop _ _ _ _ _ _ d) => some (d, s.H, s.marks)
    | _ => none
/-- Leaving it. -/
def leaveA (l : Nat) (marks : List Nat) (s : St) (H : AH) : Option (Ex × St) :=
  match H[l]? with
  | some (AB.loop st pe env ps as bd d) =>
    if st = LoopState.busy then none else
    let s' : St := { env := s.env, H := H.set l (.loop .exhausted pe env ps as bd d), marks := marks }
    match pe with
    | none => some (.normal, s')
    | some c => (jumpEx c).map fun x => (x, s')
  | _ => none

/-- The code is read in the round of a loop over a function, or in none. -/
def evCode (ap : AP) (cf : CallF) (lo : Nat) (rd : Option Nat) (k : Nat) : AC → St → Option (Ex × St)
  | .skip, s => some (.normal, s)
  | .region ops, s => (evOps ap cf lo ops s.env s.H).map fun r => (.normal, { s with env := r.1, H := r.2 })
  | .draw ops ord anc, s => (evDraw ap cf lo ops ord anc s.env s.H).map fun r => (.normal, { s with env := r.1, H := r.2 })
  | .seq a b, s => (evCode ap cf lo rd k a s).bind fun (x, s) =>
    match x with
    | .normal => evCode ap cf lo rd k b s
    | x => some (x, s)
  | .cond c t e, s => match opd s.env c with
    | .bool true => evCode ap cf lo rd k t s
    | .bool false => evCode ap cf lo rd k e s
    | _ => none
  | .block id b, s => (evCode ap cf lo rd k b s).bind fun (x, s) =>
    match x with
    | .exit i => if i = id then some (.normal, s) else some (.exit i, s)
    | x => some (x, s)
  | .loop keep b, s => evLoop (fun s => evCode ap cf lo rd k b { s with env := mask keep s.env }) k s
  | .range g ps as bd, s =>
    if isFunc (opd s.env g) = false then none else (enterA rd s).bind fun e =>
      (cf (opd s.env g) [.yield e.2.1.length] lo (e.2.1 ++ [.loop .ready none s.env ps as bd e.1])).bind fun r => leaveA e.2.1.length e.2.2 s r.2
  | .exit id, s => some (.exit id, s)
  | .ret, s => some (.ret, s)
  | .bad, _ => none

def eraseOps (l : List Oper) (dst : Nat → Option Tmp) : List AO :=
  l.map fun o => { dst := o.dst, op := o.op, ty := o.type, guard := o.guard.map fun g => dst g.1, want := (o.guard.map (·.2)).getD true }
def erase : Code → AC
  | .skip => .skip
  | .region _ ops d => if d then .draw ops [] [] else .region (eraseOps ops.toList fun g => (ops[g]?).bind (·.dst))
  | .seq a b => .seq (erase a) (erase b)
  | .cond c t e => .cond c (erase t) (erase e)
  | .block id b => .block id (erase b)
  | .loop b => .loop [] (erase b)
  | .rangeFunc g ps as bd => .range g ps (erase as) (erase bd)
  | .exit id => .exit id
  | .label _ => .skip
  | .ret => .ret
  | _ => .bad
/-- Without the marks on loops. -/
def AC.strip : AC → AC
  | .seq a b => .seq a.strip b.strip
  | .cond c t e => .cond c t.strip e.strip
  | .block id b => .block id b.strip
  | .loop _ b => .loop [] b.strip
  | .draw ops _ _ => .draw ops [] []
  | .range g ps as bd => .range g ps as.strip bd.strip
  | c => c

def setL : List AV → List (Tmp × AV) → List AV
  | env, [] => env
  | env, (t, v) :: r => setL (env.set t v) r
def jumpOf : Ex → Option Code
  | .normal => none
  | .ret => some .ret
  | .exit id => some (.exit id)

/-- One round of a loop over a function: what its yield does. -/
def roundA (ap : AP) (cf : CallF) (lo k l : Nat) (args : List AV) (H : AH) : Option (AV × AH) :=
  match H[l]? with
  | some (.loop _ _ env ps as bd _) =>
    if args.length ≠ ps.size then none else
    (evCode ap cf lo (some l) k as ⟨setL env (ps.toList.zip args), H, []⟩).bind fun r =>
    match r.1, r.2.H[l]? with
    | .normal, some (.loop .ready pe env2 ps2 as2 bd2 d2) =>
      (evCode ap cf lo (some l) k bd ⟨r.2.env, r.2.H.set l (.loop .busy pe env2 ps2 as2 bd2 d2), r.2.marks⟩).bind fun q =>
      match q.2.H[l]? with
      | some (.loop _ _ env3 ps3 as3 bd3 d3) => some (.bool (jumpOf q.1).isNone, q.2.H.set l (.loop (if (jumpOf q.1).isNone then .ready else .done) (jumpOf q.1) env3 ps3 as3 bd3 d3))
      | _ => none
    | _, _ => none
  | _ => none

def takeA : List Nat → AH → Option AH
  | [], H => some H
  | d :: r, H => match H[d]? with
    | some (.deferred false) => takeA r (H.set d (.deferred true))
    | _ => none
def resA (ap : AP) (env : List AV) (H : AH) : List ResultVar → Option (List AV)
  | [] => some []
  | .tmp t :: r => (resA ap env H r).map (get env t :: ·)
  | .cell a t :: r => (aload ap H t (get env a)).bind fun v => (resA ap env H r).map (v :: ·)
def resV : List AV → AV
  | [v] => v
  | l => .tuple l

def fnA (ap : AP) (cf : CallF) (lo k f : Nat) (args : List AV) (H : AH) : Option (AV × AH) :=
  (ap.fn f).bind fun F => (evCode ap cf lo none k F.body ⟨args ++ List.replicate (F.ntmps - args.length) .undef, H, []⟩).bind fun r =>
  match r.1 with
  | .exit _ => none
  | _ => (takeA r.2.marks r.2.H).bind fun H' => (resA ap r.2.env H' F.results).map fun l => (resV l, H')

/-- A call, so deep at most. -/
def callA (ap : AP) : Nat → CallF
  | 0 => fun _ _ _ _ => none
  | k + 1 => fun f args lo H =>
    match f with
    | .func n first caps => match ap.prim n with
      | some g => g (first ++ args ++ caps) lo H
      | none => fnA ap (callA ap k) lo k n (first ++ args ++ caps) H
    | .yield l => roundA ap (callA ap k) lo k l args H
    | _ => none

end Go.Ab
