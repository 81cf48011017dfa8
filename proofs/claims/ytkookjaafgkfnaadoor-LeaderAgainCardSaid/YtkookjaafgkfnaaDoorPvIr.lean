/- An abstract run of the model's code: values as lists, pointers as numbered blocks; no capacities, no order left open. -/
import GoSem.Core.Code
import GoSem.Core.View
import GoSem.Core.Float
import GoSem.Core.Utf8
import GoSem.Op.String
namespace Go.Pv
set_option linter.all false

/-- What may be appended to a list in place: nothing is known; its room ends where it ends; likewise, and all its block is for ever; the room behind it is held under a token. -/
inductive Tok where
  | no
  | exact
  | own
  | tk (t : Nat)
  deriving DecidableEq

inductive AV where
  | bool (b : Bool)
  | int (k : IntKind) (n : Int)
  | float (k : FloatKind) (bits : Nat)
  | str (s : List UInt8)
  | nilp
  | blk (id off : Nat)
  | elem (cells : List AV) (off : Nat)
  | glob (g off : Nat)
  | nils
  | list (tok : Tok) (sz : Nat) (cells : List AV)
  | hs (id off len : Nat) (cap : Option Nat)
  | agg (cells : List AV)
  | tuple (vs : List AV)
  | iface (t : TypeId) (v : AV)
  | niliface
  | func (fn : Fn) (first captured : List AV)
  | nilfunc

instance : Inhabited AV := ⟨.tuple []⟩

mutual
def AV.beq : AV → AV → Bool
  | .bool a, .bool b => a == b
  | .int k n, .int k' n' => k == k' && n == n'
  | .float k n, .float k' n' => k == k' && n == n'
  | .str a, .str b => a == b
  | .nilp, .nilp => true
  | .blk a b, .blk c d => a == c && b == d
  | .elem a b, .elem c d => AV.beqs a c && b == d
  | .glob a b, .glob c d => a == c && b == d
  | .nils, .nils => true
  | .list a b c, .list d e f => a == d && b == e && AV.beqs c f
  | .hs a b c d, .hs a' b' c' d' => a == a' && b == b' && c == c' && d == d'
  | .agg a, .agg b => AV.beqs a b
  | .tuple a, .tuple b => AV.beqs a b
  | .iface t v, .iface t' v' => t == t' && AV.beq v v'
  | .niliface, .niliface => true
  | .func f a b, .func f' a' b' => f == f' && AV.beqs a a' && AV.beqs b b'
  | .nilfunc, .nilfunc => true
  | _, _ => false
def AV.beqs : List AV → List AV → Bool
  | [], [] => true
  | a :: l, b :: m => AV.beq a b && AV.beqs l m
  | _, _ => false
end

/-- What a temporary holds that was not wanted. -/
abbrev AV.undef : AV := .tuple []

/-- The cells of a value that may lie in memory. -/
def AV.cells : AV → Option (List AV)
  | .agg cs => some cs
  | .tuple _ => none
  | v => some [v]

/-- Is it the value of one cell? -/
def AV.one : AV → Bool
  | .agg _ | .tuple _ => false
  | _ => true

abbrev u8 (b : UInt8) : AV := .int .u8 b.toNat

inductive Blk where
  | cells (c : List AV)
  | iter (s : List UInt8) (pos : Nat)

abbrev Heap := List (Nat × Blk)

def Heap.get : Heap → Nat → Option Blk
  | [], _ => none
  | (k, b) :: h, i => if k = i then some b else Heap.get h i

def Heap.set : Heap → Nat → Blk → Heap
  | [], i, v => [(i, v)]
  | (k, b) :: h, i, v => if k = i then (i, v) :: h else (k, b) :: Heap.set h i v

def Heap.del : Heap → Nat → Heap
  | [], _ => []
  | (k, b) :: h, i => if k = i then Heap.del h i else (k, b) :: Heap.del h i

/-- What is kept: the blocks; the next block's number; the tokens that hold room; the next token; what may be written: blocks and tokens from these on. -/
structure St where
  heap : Heap
  nid : Nat
  live : List Nat
  nt : Nat
  fid : Nat
  ft : Nat

def St.get (σ : St) (i : Nat) : Option Blk := σ.heap.get i
def St.put (σ : St) (i : Nat) (b : Blk) : St := { σ with heap := σ.heap.set i b }
def St.new (σ : St) (b : Blk) : St := { σ with heap := (σ.nid, b) :: σ.heap, nid := σ.nid + 1 }
def St.del (σ : St) (i : Nat) : St := { σ with heap := σ.heap.del i }
/-- A new token. -/
def St.tok (σ : St) : St := { σ with live := σ.nt :: σ.live, nt := σ.nt + 1 }
/-- A token goes, a new one comes. -/
def St.use (σ : St) (t : Nat) : St := { σ with live := σ.nt :: σ.live.erase t, nt := σ.nt + 1 }

inductive Opnd where
  | t (n : Nat)
  | c (v : AV)
  | g (n : Nat)
  | fn (id : FuncId)

/-- The kind of a cell that is held against another one. -/
inductive LK where
  | b
  | i
  | s
  deriving DecidableEq

/-- What kind of values are held against each other. -/
inductive EqK where
  | bool
  | ptr
  | slice
  | func
  | iface
  | agg (ks : List LK)
  deriving DecidableEq

inductive IOp where
  | mov (x : Opnd)
  | pick (c a b : Opnd)
  | alloc (zero : List AV)
  | box (x : Opnd)
  | build (zero : List AV) (parts : List (Nat × Nat × Opnd))
  | mklist (row : Bool) (sz len : Nat) (zero : List AV) (parts : List (Nat × Nat × Opnd))
  | load (n : Option Nat) (x : Opnd)
  | store (n : Nat) (a x : Opnd)
  | nilchk (x : Opnd)
  | bin (op : BinOp) (x y : Opnd)
  | eqv (k : EqK) (neg : Bool) (x y : Opnd)
  | un (op : UnOp) (x : Opnd)
  | toint (k : IntKind) (x : Opnd)
  | tofloat (k : FloatKind) (x : Opnd)
  | strbytes (row : Bool) (x : Opnd)
  | bytesstr (x : Opnd)
  | intstr (x : Opnd)
  | strid (x : Opnd)
  | strish (x : Opnd)
  | strrunes (x : Opnd)
  | runesstr (x : Opnd)
  | iface (t : TypeId) (x : Opnd)
  | mkfn (fn : Fn) (first captured : List Opnd)
  | mkslice (row : Bool) (bytes sz : Nat) (zero : List AV) (l c : Opnd)
  | slstr (x : Opnd) (lo hi : Option Opnd)
  | sl (sz : Nat) (x : Opnd) (lo hi mx : Option Opnd)
  | slarr (n sz : Nat) (x : Opnd) (lo hi mx : Option Opnd)
  | flda (off : Nat) (x : Opnd)
  | fld (n : Option Nat) (off : Nat) (x : Opnd)
  | idxa (sz : Nat) (x i : Opnd)
  | idxarr (len sz : Nat) (x i : Opnd)
  | idxs (x i : Opnd)
  | idxv (len : Nat) (n : Option Nat) (sz : Nat) (x i : Opnd)
  | ext (x : Opnd) (i : Nat)
  | len (str : Bool) (x : Opnd)
  | lenc (n : Nat)
  | append (row : Bool) (sz bytes : Nat) (x y : Opnd)
  | copy (sz : Nat) (x y : Opnd)
  | minmax (mx : Bool) (xs : List Opnd)
  | rng (x : Opnd)
  | nxt (x : Opnd)
  | call (f : FuncId) (args : List Opnd)
  | callv (x : Opnd) (args : List Opnd)

structure IOper where
  dst : Option Nat
  op : IOp
  guard : Option (Nat × Bool) := none

inductive IC where
  | skip
  | reg (ops : List IOper)
  | regd (ops : List IOper) (cf : List (Nat × Nat))
  | seq (a b : IC)
  | cond (c : Opnd) (a b : IC)
  | block (id : Nat) (b : IC)
  | loop (b : IC)
  | exit (id : Nat)
  | ret
  | keep (ts : List Nat) (b : IC)

inductive IRes where
  | tmp (t : Nat)
  | cell (a : Nat) (n : Option Nat)

/-- What a call leaves of the state: what it makes of it; nothing new; as it was, by what is there; as it was, of the arguments alone. -/
inductive Mode where
  | plain
  | tidy
  | pure
  | closed
  deriving DecidableEq

structure IFun where
  nargs : Nat
  mode : Mode
  res : List IRes
  body : IC

def IFun.pure (fn : IFun) : Bool :=
  match fn.mode with
  | .pure | .closed => true
  | _ => false

structure Env where
  fn : FuncId → Option IFun
  glob : Nat → Option (List AV)
  /-- What is known of functions without a text: they leave the state as it is. -/
  prim : FuncId → Option (List AV → Option AV) := fun _ => none

/-- Does the function leave the state as it is? -/
def Env.pf (E : Env) (f : FuncId) : Bool := (E.prim f).isSome || (E.fn f).any (·.pure)

/-- The temporaries, the latest first; and the state. -/
structure M where
  tm : List (Nat × AV)
  st : St

def lk : List (Nat × AV) → Nat → Option AV
  | [], _ => none
  | (k, v) :: l, t => if k = t then some v else lk l t

def keepT (tm : List (Nat × AV)) : List Nat → List (Nat × AV)
  | [] => []
  | t :: ts => match lk tm t with
    | some v => (t, v) :: keepT tm ts
    | none => keepT tm ts

def M.put (e : M) (d : Option Nat) (v : AV) (σ : St) : M :=
  match d with
  | some t => ⟨(t, v) :: e.tm, σ⟩
  | none => ⟨e.tm, σ⟩

def Opnd.ev (tm : List (Nat × AV)) : Opnd → Option AV
  | .t n => lk tm n
  | .c v => some v
  | .g n => some (.glob n 0)
  | .fn id => some (.func (.func id) [] [])

def evs (tm : List (Nat × AV)) : List Opnd → Option (List AV)
  | [] => some []
  | x :: l => match x.ev tm, evs tm l with
    | some v, some vs => some (v :: vs)
    | _, _ => none

def evo (tm : List (Nat × AV)) : Option Opnd → Option (Option AV)
  | none => some none
  | some x => (x.ev tm).map some

/-! ### Pure operations -/

def shiftA (op : BinOp) (k : IntKind) (x y : Int) : Option AV :=
  if y < 0 then none else
  match op with
  | .shl => some (.int k (k.wrap (x * 2 ^ (min y.toNat k.bits))))
  | .shr => some (.int k (x.fdiv (2 ^ (min y.toNat k.bits))))
  | _ => none

def bitsA (op : BinOp) (k : IntKind) (x y : Int) : Option AV :=
  match op with
  | .and => some (.int k (k.wrap (BitVec.ofInt k.bits x &&& BitVec.ofInt k.bits y).toNat))
  | .or => some (.int k (k.wrap (BitVec.ofInt k.bits x ||| BitVec.ofInt k.bits y).toNat))
  | .xor => some (.int k (k.wrap (BitVec.ofInt k.bits x ^^^ BitVec.ofInt k.bits y).toNat))
  | .andNot => some (.int k (k.wrap (BitVec.ofInt k.bits x &&& ~~~ BitVec.ofInt k.bits y).toNat))
  | _ => none

def intA (op : BinOp) (k : IntKind) (x y : Int) : Option AV :=
  match op with
  | .add => some (.int k (k.wrap (x + y)))
  | .sub => some (.int k (k.wrap (x - y)))
  | .mul => some (.int k (k.wrap (x * y)))
  | .quo => if y = 0 then none else some (.int k (k.wrap (x.tdiv y)))
  | .rem => if y = 0 then none else some (.int k (x.tmod y))
  | .eql => some (.bool (decide (x = y)))
  | .neq => some (.bool (!decide (x = y)))
  | .lss => some (.bool (decide (x < y)))
  | .leq => some (.bool (decide (x ≤ y)))
  | .gtr => some (.bool (decide (y < x)))
  | .geq => some (.bool (decide (y ≤ x)))
  | op => bitsA op k x y

def strLim : Nat := 2 ^ 60

def strA (op : BinOp) (x y : List UInt8) : Option AV :=
  match op with
  | .add => if x.length + y.length ≤ strLim then some (.str (x ++ y)) else none
  | .eql => some (.bool (decide (x = y)))
  | .neq => some (.bool (!decide (x = y)))
  | .lss => some (.bool (Op.bytesLess x y))
  | .leq => some (.bool (Op.bytesLess x y || decide (x = y)))
  | .gtr => some (.bool (!(Op.bytesLess x y || decide (x = y))))
  | .geq => some (.bool (!(Op.bytesLess x y)))
  | _ => none

def floatA (op : BinOp) (k : FloatKind) (x y : Nat) : Option AV :=
  let c := k.format.order x y
  match op with
  | .add => (k.format.add x y).map (.float k)
  | .sub => (k.format.sub x y).map (.float k)
  | .mul => (k.format.mul x y).map (.float k)
  | .quo => (k.format.div x y).map (.float k)
  | .eql => some (.bool (c == some .eq))
  | .neq => some (.bool (c != some .eq))
  | .lss => some (.bool (c == some .lt))
  | .leq => some (.bool (c == some .lt || c == some .eq))
  | .gtr => some (.bool (c == some .gt))
  | .geq => some (.bool (c == some .gt || c == some .eq))
  | _ => none

def binA (op : BinOp) (x y : AV) : Option AV :=
  match x, y with
  | .int k a, .int k' b =>
    match op with
    | .shl | .shr => shiftA op k a b
    | _ => if k = k' then intA op k a b else none
  | .str a, .str b => strA op a b
  | .float k a, .float k' b => if k = k' then floatA op k a b else none
  | _, _ => none

/-- Are two cells of one kind one? -/
def leafEq : LK → AV → AV → Option Bool
  | .b, .bool a, .bool b => some (a == b)
  | .i, .int k a, .int k' b => if k = k' then some (decide (a = b)) else none
  | .s, .str a, .str b => some (decide (a = b))
  | _, _, _ => none

def leavesEq : List LK → List AV → List AV → Option Bool
  | [], [], [] => some true
  | k :: ks, a :: l, b :: m => match leafEq k a b, leavesEq ks l m with
    | some x, some y => some (x && y)
    | _, _ => none
  | _, _, _ => none

def eqA (k : EqK) (x y : AV) : Option Bool :=
  match k, x, y with
  | .agg ks, .agg a, .agg b => leavesEq ks a b
  | .bool, .bool a, .bool b => some (a == b)
  | .ptr, .nilp, .nilp => some true
  | .ptr, .nilp, .blk _ _ | .ptr, .blk _ _, .nilp | .ptr, .nilp, .elem _ _ | .ptr, .elem _ _, .nilp | .ptr, .nilp, .glob _ _ | .ptr, .glob _ _, .nilp => some false
  | .slice, .nils, .nils => some true
  | .slice, .nils, .list _ _ _ | .slice, .list _ _ _, .nils | .slice, .nils, .hs _ _ _ _ | .slice, .hs _ _ _ _, .nils => some false
  | .iface, .niliface, .niliface => some true
  | .iface, .niliface, .iface _ _ | .iface, .iface _ _, .niliface => some false
  | .func, .nilfunc, .nilfunc => some true
  | .func, .nilfunc, .func _ _ _ | .func, .func _ _ _, .nilfunc => some false
  | _, _, _ => none

def unA (op : UnOp) (x : AV) : Option AV :=
  match op, x with
  | .neg, .int k n => some (.int k (k.wrap (0 - n)))
  | .xor, .int k n => bitsA .xor k (if k.signed then -1 else k.max) n
  | .not, .bool b => some (.bool (!b))
  | .neg, .float k b => some (.float k (b ^^^ 2 ^ (k.format.exponentBits + k.format.fractionBits)))
  | _, _ => none

def fillA : List AV → List (Nat × Nat × AV) → Option (List AV)
  | cs, [] => some cs
  | cs, (off, n, v) :: rest => match v.cells with
    | some vc => if vc.length = n ∧ off + n ≤ cs.length then fillA (cs.take off ++ vc ++ cs.drop (off + n)) rest else none
    | none => none

def evParts (tm : List (Nat × AV)) : List (Nat × Nat × Opnd) → Option (List (Nat × Nat × AV))
  | [] => some []
  | (o, n, x) :: l => match x.ev tm, evParts tm l with
    | some v, some vs => some ((o, n, v) :: vs)
    | _, _ => none

/-- A part of a row of cells: one cell, or so many as a struct. -/
def cut (cs : List AV) (off : Nat) : Option Nat → Option AV
  | none => cs[off]?
  | some n => if off + n ≤ cs.length then some (.agg ((cs.drop off).take n)) else none

def cellsAt (E : Env) (σ : St) : AV → Option (List AV × Nat)
  | .blk id off => match σ.get id with
    | some (.cells cs) => some (cs, off)
    | _ => none
  | .elem cs off => some (cs, off)
  | .glob g off => match E.glob g with
    | some cs => some (cs, off)
    | none => none
  | _ => none

def loadA (E : Env) (σ : St) (n : Option Nat) (a : AV) : Option AV :=
  match cellsAt E σ a with
  | some (cs, off) => cut cs off n
  | none => none

def storeA (σ : St) (n : Nat) (a v : AV) : Option St :=
  match a with
  | .blk id off => match σ.get id, v.cells with
    | some (.cells cs), some vc =>
      if σ.fid ≤ id ∧ vc.length = n ∧ off + n ≤ cs.length then some (σ.put id (.cells (cs.take off ++ vc ++ cs.drop (off + n)))) else none
    | _, _ => none
  | _ => none

/-- The cells of a slice. -/
def sliceCells (σ : St) (sz : Nat) : AV → Option (List AV)
  | .nils => some []
  | .list _ z cs => if z = sz then some cs else none
  | .hs id off len _ => match σ.get id with
    | some (.cells cs) => if off + len * sz ≤ cs.length then some ((cs.drop off).take (len * sz)) else none
    | _ => none
  | _ => none

/-- The cells that are appended, or copied: of a slice, or a string. -/
def moreCells (σ : St) (sz : Nat) : AV → Option (List AV)
  | .str s => if sz = 1 then some (s.map u8) else none
  | v => sliceCells σ sz v

def room : Nat := 2 ^ 40

def appendA (σ : St) (row : Bool) (sz bytes : Nat) (x y : AV) : Option (AV × St) :=
  match moreCells σ sz y with
  | none => none
  | some [] => match x with
    | .nils | .list _ _ _ | .hs _ _ _ _ => some (x, σ)
    | _ => none
  | some new =>
    match x with
    | .nils =>
      if sz ≠ 0 ∧ new.length % sz = 0 ∧ new.length / sz * bytes ≤ room ∧ new.length / sz ≤ room then
        if row then some (.hs σ.nid 0 (new.length / sz) none, σ.new (.cells new))
        else some (.list (.tk σ.nt) sz new, σ.tok)
      else none
    | .list tok z cs =>
      if z = sz ∧ new.length % sz = 0 ∧ (cs ++ new).length / sz * bytes ≤ room ∧ (cs ++ new).length / sz ≤ room then
        match tok with
        | .no => none
        | .exact | .own => some (.list (.tk σ.nt) sz (cs ++ new), σ.tok)
        | .tk t => if σ.ft ≤ t ∧ t ∈ σ.live then some (.list (.tk σ.nt) sz (cs ++ new), σ.use t) else none
      else none
    | _ => none

def byteOf : AV → Option UInt8
  | .int .u8 n => some (UInt8.ofNat n.toNat)
  | _ => none

def bytesOf : List AV → Option (List UInt8)
  | [] => some []
  | v :: l => match byteOf v, bytesOf l with
    | some b, some bs => some (b :: bs)
    | _, _ => none

def intOfA : AV → Option Int
  | .int _ n => some n
  | _ => none

/-- A bound of a slice expression: not above the upper one. -/
def boundA (v : Option AV) (dflt upper : Nat) : Option Nat :=
  match v with
  | none => some dflt
  | some v => match v with
    | .int _ n => if 0 ≤ n ∧ n ≤ upper then some n.toNat else none
    | _ => none

def slstrA (s : List UInt8) (lo hi : Option AV) : Option AV :=
  match boundA hi s.length s.length with
  | none => none
  | some h => match boundA lo 0 h with
    | none => none
    | some l => some (.str ((s.take h).drop l))

def slA (sz : Nat) (x : AV) (lo hi mx : Option AV) : Option AV :=
  match x with
  | .nils => match boundA mx 0 0 with
    | none => none
    | some _ => match boundA hi 0 0 with
      | none => none
      | some _ => match boundA lo 0 0 with
        | none => none
        | some _ => some .nils
  | .list tok z cs =>
    if z ≠ sz ∨ sz = 0 then none else
    let len := cs.length / sz
    match boundA mx len len with
    | none => none
    | some m => match boundA hi len m with
      | none => none
      | some h => match boundA lo 0 h with
        | none => none
        | some l =>
          let cs' := (cs.take (h * sz)).drop (l * sz)
          match mx with
          | some _ => some (.list (if m = h then .exact else .no) sz cs')
          | none => some (.list (if h = len then tok else .no) sz cs')
  | .hs id off len (some c) =>
    match boundA mx c c with
    | none => none
    | some m => match boundA hi len m with
      | none => none
      | some h => match boundA lo 0 h with
        | none => none
        | some l => some (.hs id (if m = l then off else off + l * sz) (h - l) (some (m - l)))
  | .hs id off len none =>
    match boundA mx len len with
    | none => none
    | some m => match boundA hi len m with
      | none => none
      | some h => match boundA lo 0 h with
        | none => none
        | some l => match mx with
          | some _ => some (.hs id (if m = l then off else off + l * sz) (h - l) (some (m - l)))
          | none => if sz = 0 then none else if l = len ∧ l ≠ 0 then some (.list .no sz []) else some (.hs id (off + l * sz) (h - l) none)
  | _ => none

def slarrA (n sz : Nat) (x : AV) (lo hi mx : Option AV) : Option AV :=
  match x with
  | .blk id off => match boundA mx n n with
    | none => none
    | some m => match boundA hi n m with
      | none => none
      | some h => match boundA lo 0 h with
        | none => none
        | some l => some (.hs id (if m = l then off else off + l * sz) (h - l) (some (m - l)))
  | _ => none

def addA (n : Nat) : AV → Option AV
  | .blk id off => some (.blk id (off + n))
  | .elem cs off => some (.elem cs (off + n))
  | .glob g off => some (.glob g (off + n))
  | _ => none

def idxaA (sz : Nat) (x i : AV) : Option AV :=
  match i with
  | .int _ n => match x with
    | .list _ z cs => if z = sz ∧ sz ≠ 0 ∧ 0 ≤ n ∧ n < ((cs.length / sz : Nat) : Int) then some (.elem cs (n.toNat * sz)) else none
    | .hs id off len _ => if 0 ≤ n ∧ n < (len : Int) then some (.blk id (off + n.toNat * sz)) else none
    | _ => none
  | _ => none

def idxarrA (len sz : Nat) (x i : AV) : Option AV :=
  match i with
  | .int _ n => if 0 ≤ n ∧ n < (len : Int) then addA (n.toNat * sz) x else none
  | _ => none

def idxsA (x i : AV) : Option AV :=
  match x, i with
  | .str s, .int _ n => if 0 ≤ n then (match s[n.toNat]? with | some b => some (u8 b) | none => none) else none
  | _, _ => none

def idxvA (len : Nat) (n : Option Nat) (sz : Nat) (x i : AV) : Option AV :=
  match x, i with
  | .agg cs, .int _ m => if 0 ≤ m ∧ m < (len : Int) then cut cs (m.toNat * sz) n else none
  | _, _ => none

def lenA : Bool → AV → Option AV
  | true, .str s => some (.int .i64 s.length)
  | false, .nils => some (.int .i64 0)
  | false, .list _ sz cs => if sz = 0 then none else some (.int .i64 ((cs.length / sz : Nat) : Int))
  | false, .hs _ _ len _ => some (.int .i64 len)
  | _, _ => none

def mmStep (mx : Bool) (x y : AV) : Option AV :=
  match x, y with
  | .int k a, .int k' b => if k = k' then some (.int k (if mx then (if b > a then b else a) else (if b < a then b else a))) else none
  | _, _ => none

def mmFold (mx : Bool) : AV → List AV → Option AV
  | x, [] => some x
  | x, y :: l => match mmStep mx x y with
    | some z => mmFold mx z l
    | none => none

def minmaxA (mx : Bool) : List AV → Option AV
  | [] => none
  | x :: rest => mmFold mx x rest

def nilchkA : AV → Option AV
  | .blk a b => some (.blk a b)
  | .elem a b => some (.elem a b)
  | .glob a b => some (.glob a b)
  | .func (.func f) a b => some (.func (.func f) a b)
  | .iface t v => some (.iface t v)
  | _ => none

def mksliceA (σ : St) (row : Bool) (bytes sz : Nat) (zero : List AV) (l c : AV) : Option (AV × St) :=
  match l, c with
  | .int _ l, .int _ c =>
    if 0 ≤ l ∧ l ≤ c ∧ c * bytes ≤ (room : Int) ∧ c ≤ (room : Int) ∧ zero.length = sz ∧ sz ≠ 0 then
      if row then some (.hs σ.nid 0 l.toNat (some c.toNat), σ.new (.cells (List.replicate c.toNat zero).flatten))
      else if l = c then some (.list .exact sz (List.replicate c.toNat zero).flatten, σ)
      else some (.list (.tk σ.nt) sz (List.replicate l.toNat zero).flatten, σ.tok)
    else none
  | _, _ => none

def copyA (σ : St) (sz : Nat) (x y : AV) : Option (AV × St) :=
  match x, moreCells σ sz y with
  | .hs id off len _, some new => match σ.get id with
    | some (.cells cs) =>
      let n := min (new.length / sz) len
      if σ.fid ≤ id ∧ sz ≠ 0 ∧ new.length % sz = 0 ∧ off + n * sz ≤ cs.length then
        some (.int .i64 n, σ.put id (.cells (cs.take off ++ new.take (n * sz) ++ cs.drop (off + n * sz))))
      else none
    | _ => none
  | .nils, some _ => some (.int .i64 0, σ)
  | .list _ z cs, some new => if z = sz ∧ sz ≠ 0 ∧ new.length % sz = 0 ∧ min (new.length / sz) (cs.length / sz) = 0 then some (.int .i64 0, σ) else none
  | _, _ => none

/-- An operation that calls nothing. -/
def evOp (E : Env) (tm : List (Nat × AV)) (σ : St) : IOp → Option (AV × St)
  | .mov x => (x.ev tm).map (·, σ)
  | .pick c a b => match c.ev tm with
    | some (.bool true) => (a.ev tm).map (·, σ)
    | some (.bool false) => (b.ev tm).map (·, σ)
    | _ => none
  | .alloc zero => some (.blk σ.nid 0, σ.new (.cells zero))
  | .box x => match x.ev tm with
    | some v => match v.cells with
      | some cs => some (.blk σ.nid 0, σ.new (.cells cs))
      | none => none
    | none => none
  | .build zero parts => match evParts tm parts with
    | some ps => (fillA zero ps).map fun cs => (.agg cs, σ)
    | none => none
  | .mklist row sz len zero parts => match evParts tm parts with
    | some ps => match fillA (List.replicate len zero).flatten ps with
      | some cs => if row then some (.hs σ.nid 0 len (some len), σ.new (.cells cs)) else some (.list .own sz cs, σ)
      | none => none
    | none => none
  | .load n x => match x.ev tm with
    | some a => (loadA E σ n a).map (·, σ)
    | none => none
  | .store n a x => match a.ev tm, x.ev tm with
    | some a, some v => (storeA σ n a v).map (AV.undef, ·)
    | _, _ => none
  | .nilchk x => match x.ev tm with
    | some a => (nilchkA a).map (·, σ)
    | none => none
  | .bin op x y => match x.ev tm, y.ev tm with
    | some a, some b => (binA op a b).map (·, σ)
    | _, _ => none
  | .eqv k neg x y => match x.ev tm, y.ev tm with
    | some a, some b => (eqA k a b).map fun r => (.bool (if neg then !r else r), σ)
    | _, _ => none
  | .un op x => match x.ev tm with
    | some a => (unA op a).map (·, σ)
    | none => none
  | .toint k x => match x.ev tm with
    | some (.int _ n) => some (.int k (k.wrap n), σ)
    | _ => none
  | .tofloat k x => match x.ev tm with
    | some (.int _ n) => some (.float k (k.nearest n), σ)
    | _ => none
  | .strbytes row x => match x.ev tm with
    | some (.str s) => if row then none else some (.list .no 1 (s.map u8), σ)
    | _ => none
  | .bytesstr x => match x.ev tm with
    | some v => match sliceCells σ 1 v with
      | some cs => (bytesOf cs).map fun bs => (.str bs, σ)
      | none => none
    | none => none
  | .intstr x => match x.ev tm with
    | some (.int _ n) => some (.str (Utf8.encode n).data.toList, σ)
    | _ => none
  | .strid x => match x.ev tm with
    | some (.str s) => some (.str s, σ)
    | _ => none
  | .strish x => match x.ev tm with
    | some (.list .own sz (c :: cs)) => some (.list .own sz (c :: cs), σ)
    | _ => none
  | .strrunes _ => none
  | .runesstr _ => none
  | .iface t x => (x.ev tm).map fun v => (.iface t v, σ)
  | .mkfn fn a b => match evs tm a, evs tm b with
    | some a, some b => some (.func fn a b, σ)
    | _, _ => none
  | .mkslice row bytes sz zero l c => match l.ev tm, c.ev tm with
    | some l, some c => mksliceA σ row bytes sz zero l c
    | _, _ => none
  | .slstr x lo hi => match x.ev tm, evo tm lo, evo tm hi with
    | some (.str s), some lo, some hi => (slstrA s lo hi).map (·, σ)
    | _, _, _ => none
  | .sl sz x lo hi mx => match x.ev tm, evo tm lo, evo tm hi, evo tm mx with
    | some v, some lo, some hi, some mx => (slA sz v lo hi mx).map (·, σ)
    | _, _, _, _ => none
  | .slarr n sz x lo hi mx => match x.ev tm, evo tm lo, evo tm hi, evo tm mx with
    | some v, some lo, some hi, some mx => (slarrA n sz v lo hi mx).map (·, σ)
    | _, _, _, _ => none
  | .flda off x => match x.ev tm with
    | some a => (addA off a).map (·, σ)
    | none => none
  | .fld n off x => match x.ev tm with
    | some (.agg cs) => (cut cs off n).map (·, σ)
    | _ => none
  | .idxa sz x i => match x.ev tm, i.ev tm with
    | some a, some i => (idxaA sz a i).map (·, σ)
    | _, _ => none
  | .idxarr len sz x i => match x.ev tm, i.ev tm with
    | some a, some i => (idxarrA len sz a i).map (·, σ)
    | _, _ => none
  | .idxs x i => match x.ev tm, i.ev tm with
    | some a, some i => (idxsA a i).map (·, σ)
    | _, _ => none
  | .idxv len n sz x i => match x.ev tm, i.ev tm with
    | some a, some i => (idxvA len n sz a i).map (·, σ)
    | _, _ => none
  | .ext x i => match x.ev tm with
    | some (.tuple vs) => (vs[i]?).map (·, σ)
    | _ => none
  | .len str x => match x.ev tm with
    | some a => (lenA str a).map (·, σ)
    | none => none
  | .lenc n => some (.int .i64 n, σ)
  | .append row sz bytes x y => match x.ev tm, y.ev tm with
    | some a, some b => appendA σ row sz bytes a b
    | _, _ => none
  | .copy sz x y => match x.ev tm, y.ev tm with
    | some a, some b => copyA σ sz a b
    | _, _ => none
  | .minmax mx xs => match evs tm xs with
    | some vs => (minmaxA mx vs).map (·, σ)
    | none => none
  | .rng x => match x.ev tm with
    | some (.str s) => some (.blk σ.nid 0, σ.new (.iter s 0))
    | _ => none
  | .nxt x => match x.ev tm with
    | some (.blk id 0) => match σ.get id with
      | some (.iter s pos) =>
        if σ.fid ≤ id then
          if pos < s.length then
            let d := Utf8.decode ⟨s.toArray⟩ pos
            some (.tuple [.bool true, .int .i64 pos, .int .i32 d.1], σ.put id (.iter s (pos + d.2)))
          else some (.tuple [.bool false], σ)
        else none
      | _ => none
    | _ => none
  | .call _ _ | .callv _ _ => none

abbrev CallF := FuncId → List AV → St → Option (AV × St)

def evOper (E : Env) (cf : CallF) (tm : List (Nat × AV)) (σ : St) : IOp → Option (AV × St)
  | .call f args => match evs tm args with
    | some vs => cf f vs σ
    | none => none
  | .callv x args => match x.ev tm, evs tm args with
    | some (.func (.func f) first captured), some vs => cf f (first ++ vs ++ captured) σ
    | _, _ => none
  | op => evOp E tm σ op

def guardA (tm : List (Nat × AV)) : Option (Nat × Bool) → Option Bool
  | none => some true
  | some (t, want) => match lk tm t with
    | some (.bool b) => some (b == want)
    | some (.tuple []) => some false
    | _ => none

def evOps (E : Env) (cf : CallF) : List IOper → M → Option M
  | [], e => some e
  | o :: os, e => match guardA e.tm o.guard with
    | none => none
    | some false => evOps E cf os (e.put o.dst .undef e.st)
    | some true => match evOper E cf e.tm e.st o.op with
      | some (v, σ) => evOps E cf os (e.put o.dst v σ)
      | none => none

/-- What was ahead of each operation, and what it came to (none: it was not wanted). -/
structure Step where
  e : M
  r : Option AV

def evTrace (E : Env) (cf : CallF) : List IOper → M → Option (List Step × M)
  | [], e => some ([], e)
  | o :: os, e => match guardA e.tm o.guard with
    | none => none
    | some false => match evTrace E cf os (e.put o.dst .undef e.st) with
      | some (l, e') => some (⟨e, none⟩ :: l, e')
      | none => none
    | some true => match evOper E cf e.tm e.st o.op with
      | some (v, σ) => match evTrace E cf os (e.put o.dst v σ) with
        | some (l, e') => some (⟨e, some v⟩ :: l, e')
        | none => none
      | none => none

/-- The state behind (ahead of) an operation of a trace. -/
def stAt (l : List Step) (e : M) (i : Nat) : St := match l[i]? with | some s => s.e.st | none => e.st

/-- An operation that reads comes to the same at another place of the region, and changes nothing. -/
def recheck (E : Env) (cf : CallF) (ops : List IOper) (l : List Step) (e : M) (p : Nat × Nat) : Bool :=
  match ops[p.1]?, l[p.1]? with
  | some o, some s => match s.r with
    | none => true
    | some v => match evOper E cf s.e.tm (stAt l e (if p.1 < p.2 then p.2 + 1 else p.2)) o.op with
      | some (v', _) => AV.beq v v'
      | none => false
  | _, _ => false

def evOpsD (E : Env) (cf : CallF) (ops : List IOper) (pairs : List (Nat × Nat)) (e : M) : Option M :=
  match evTrace E cf ops e with
  | some (l, e') => if pairs.all (recheck E cf ops l e') then some e' else none
  | none => none

inductive Ex where
  | normal
  | exit (id : Nat)
  | ret
  deriving DecidableEq

def evLoop (body : M → Option (Ex × M)) : Nat → M → Option (Ex × M)
  | 0, _ => none
  | n + 1, e => match body e with
    | some (.normal, e') => evLoop body n e'
    | r => r

def evCode (E : Env) (cf : CallF) (n : Nat) : IC → M → Option (Ex × M)
  | .skip, e => some (.normal, e)
  | .reg ops, e => (evOps E cf ops e).map (.normal, ·)
  | .regd ops pairs, e => (evOpsD E cf ops pairs e).map (.normal, ·)
  | .seq a b, e => match evCode E cf n a e with
    | some (.normal, e') => evCode E cf n b e'
    | r => r
  | .cond c a b, e => match c.ev e.tm with
    | some (.bool true) => evCode E cf n a e
    | some (.bool false) => evCode E cf n b e
    | _ => none
  | .block id b, e => match evCode E cf n b e with
    | some (.exit id', e') => some (if id' = id then .normal else .exit id', e')
    | r => r
  | .loop b, e => evLoop (evCode E cf n b) n e
  | .exit id, e => some (.exit id, e)
  | .ret, e => some (.ret, e)
  | .keep ts b, e => evCode E cf n b ⟨keepT e.tm ts, e.st⟩

def argsT : Nat → List AV → List (Nat × AV)
  | _, [] => []
  | i, v :: l => (i, v) :: argsT (i + 1) l

def resA (E : Env) (e : M) : IRes → Option AV
  | .tmp t => lk e.tm t
  | .cell a n => match lk e.tm a with
    | some p => loadA E e.st n p
    | none => none

def ressA (E : Env) (e : M) : List IRes → Option (List AV)
  | [] => some []
  | r :: rs => match resA E e r, ressA E e rs with
    | some v, some vs => some (v :: vs)
    | _, _ => none

def oneOr : List AV → AV
  | [v] => v
  | vs => .tuple vs

/-- A value without what was made since: blocks and tokens from these on. -/
def stripTok (nt : Nat) : Tok → Tok
  | .tk t => if t < nt then .tk t else .no
  | t => t
mutual
def strip (nid nt : Nat) : AV → Option AV
  | .blk id off => if id < nid then some (.blk id off) else none
  | .elem cs off => match strips nid nt cs with
    | some cs => some (.elem cs off)
    | none => none
  | .list tok sz cs => match strips nid nt cs with
    | some cs => some (.list (stripTok nt tok) sz cs)
    | none => none
  | .hs id off len cap => if id < nid then some (.hs id off len cap) else none
  | .agg cs => match strips nid nt cs with
    | some cs => some (.agg cs)
    | none => none
  | .tuple cs => match strips nid nt cs with
    | some cs => some (.tuple cs)
    | none => none
  | .iface t v => match strip nid nt v with
    | some v => some (.iface t v)
    | none => none
  | .func fn a b => match strips nid nt a, strips nid nt b with
    | some a, some b => some (.func fn a b)
    | _, _ => none
  | v => some v
def strips (nid nt : Nat) : List AV → Option (List AV)
  | [] => some []
  | v :: l => match strip nid nt v, strips nid nt l with
    | some v, some l => some (v :: l)
    | _, _ => none
end

/-- A value without blocks and tokens. -/
def closeTok : Tok → Tok
  | .exact | .own => .exact
  | _ => .no
mutual
def close : AV → Option AV
  | .blk _ _ => none
  | .hs _ _ _ _ => none
  | .elem cs off => match closes cs with
    | some cs => some (.elem cs off)
    | none => none
  | .list tok sz cs => match closes cs with
    | some cs => some (.list (closeTok tok) sz cs)
    | none => none
  | .agg cs => match closes cs with
    | some cs => some (.agg cs)
    | none => none
  | .tuple cs => match closes cs with
    | some cs => some (.tuple cs)
    | none => none
  | .iface t v => match close v with
    | some v => some (.iface t v)
    | none => none
  | .func fn a b => match closes a, closes b with
    | some a, some b => some (.func fn a b)
    | _, _ => none
  | v => some v
def closes : List AV → Option (List AV)
  | [] => some []
  | v :: l => match close v, closes l with
    | some v, some l => some (v :: l)
    | _, _ => none
end

mutual
/-- Is nothing said of blocks from this one on? -/
def low (k : Nat) : AV → Bool
  | .blk id _ => decide (id < k)
  | .hs id _ _ _ => decide (id < k)
  | .elem cs _ => lows k cs
  | .list _ _ cs => lows k cs
  | .agg cs => lows k cs
  | .tuple cs => lows k cs
  | .iface _ v => low k v
  | .func _ a b => lows k a && lows k b
  | _ => true
def lows (k : Nat) : List AV → Bool
  | [] => true
  | v :: l => low k v && lows k l
end

/-- The blocks below this one, if none of them says anything of the others. -/
def tidyHeap (k : Nat) : Heap → Option Heap
  | [] => some []
  | (i, b) :: h => if i < k then
      (match b with
        | .cells cs => if lows k cs then (tidyHeap k h).map ((i, b) :: ·) else none
        | .iter _ _ => (tidyHeap k h).map ((i, b) :: ·))
    else tidyHeap k h

def St.zero : St := ⟨[], 0, [], 0, 0, 0⟩

/-- The body of a function. -/
def evBody (E : Env) (cf : CallF) (n : Nat) (fn : IFun) (args : List AV) (σ : St) : Option (AV × St) :=
  if args.length = fn.nargs then
    match evCode E cf n fn.body ⟨argsT 0 args, σ⟩ with
    | some (.normal, e) | some (.ret, e) => match ressA E e fn.res with
      | some vs => some (oneOr vs, e.st)
      | none => none
    | _ => none
  else none

def evFun (E : Env) (cf : CallF) (n : Nat) (fn : IFun) (args : List AV) (σ : St) : Option (AV × St) :=
  match fn.mode with
  | .plain => evBody E cf n fn args σ
  | .tidy => match evBody E cf n fn args σ with
    | some (v, σ') => match tidyHeap σ.nid σ'.heap with
      | some h => if low σ.nid v then some (v, { σ' with heap := h, nid := σ.nid }) else none
      | none => none
    | none => none
  | .pure => match evBody E cf n fn args { σ with fid := σ.nid, ft := σ.nt } with
    | some (v, _) => (strip σ.nid σ.nt v).map (·, σ)
    | none => none
  | .closed => match closes args with
    | some args => match evBody E cf n fn args .zero with
      | some (v, _) => (close v).map (·, σ)
      | none => none
    | none => none

def evCall (E : Env) : Nat → CallF
  | 0 => fun _ _ _ => none
  | n + 1 => fun f args σ => match E.prim f with
    | some g => (g args).map (·, σ)
    | none => match E.fn f with
      | some fn => evFun E (evCall E n) n fn args σ
      | none => none

end Go.Pv
