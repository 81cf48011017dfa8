/- Is an abstract text a program's code? A check that the kernel runs. -/
import Derived.Test.YtkookjaafgkfnaaDoorPvIr
import GoSem.Core.Layout
import GoSem.Op.Equal
import GoSem.Core.Region
namespace Go.Pv
set_option linter.all false

mutual
def okConst : AV → Value → Bool
  | .bool a, .bool b => a == b
  | .int k n, .int k' n' => k == k' && n == n'
  | .float k n, .float k' n' => k == k' && n == n'
  | .str l, .string s => s.data.toList == l
  | .nilp, .pointer none => true
  | .nils, .slice none 0 0 => true
  | .niliface, .nilIface => true
  | .nilfunc, .nilFunc => true
  | .agg cs, .agg us => cs.all (·.one) && okConsts cs us.toList
  | .iface t v, .iface t' v' => t == t' && okConst v v'
  | _, _ => false
def okConsts : List AV → List Value → Bool
  | [], [] => true
  | a :: l, u :: m => okConst a u && okConsts l m
  | _, _ => false
end

def okOpnd : Opnd → Operand → Bool
  | .t a, .tmp b => a == b
  | .c v, .const u => okConst v u
  | .g a, .global b => a == b
  | .fn a, .func b => a == b
  | _, _ => false

def okOpnds : List Opnd → List Operand → Bool
  | [], [] => true
  | a :: l, b :: m => okOpnd a b && okOpnds l m
  | _, _ => false

def okOpndO : Option Opnd → Option Operand → Bool
  | none, none => true
  | some a, some b => okOpnd a b
  | _, _ => false

variable (P : Program)

def szOf (t : TypeId) : Option Nat := (P.info? t).map (·.size)

/-- A struct or an array of so many cells, or one cell. -/
def okAgg (t : TypeId) (n : Option Nat) : Bool :=
  match P.underlying t, n with
  | some (.struct _), some k | some (.array _ _), some k => szOf P t == some k
  | some (.struct _), none | some (.array _ _), none => false
  | some _, none => szOf P t == some 1
  | _, _ => false

def okZero (t : TypeId) (zero : List AV) : Bool :=
  match P.info? t with
  | some i => match i.zero with
    | some z => zero.all (·.one) && okConsts zero z.cells.toList
    | none => false
  | none => false

/-- The parts of a literal: a field's place, or an element's. -/
def okParts (place : Nat → Option (Nat × Nat)) : List (Nat × Nat × Opnd) → List (Nat × Operand) → Bool
  | [], [] => true
  | (o, n, x) :: l, (i, y) :: m => place i == some (o, n) && okOpnd x y && okParts place l m
  | _, _ => false

def placeOf (fs : Array Field) (i : Nat) : Option (Nat × Nat) :=
  match fs[i]? with
  | some f => match szOf P f.type with
    | some n => some (f.offset, n)
    | none => none
  | none => none

def leafFields (f : TypeId → Option (List LK)) : List Field → Nat → Option (List LK)
  | [], _ => some []
  | g :: gs, off => if g.offset = off ∧ g.name ≠ "_" then match f g.type with
      | some ks => match leafFields f gs (off + ks.length) with
        | some ks' => some (ks ++ ks')
        | none => none
      | none => none
    else none

/-- The kinds of the cells of a type whose values are compared cell by cell. -/
def leafKinds : Nat → TypeId → Option (List LK)
  | 0, _ => none
  | d + 1, t => match P.underlying t with
    | some .bool => if szOf P t = some 1 then some [.b] else none
    | some (.int _) => if szOf P t = some 1 then some [.i] else none
    | some .string => if szOf P t = some 1 then some [.s] else none
    | some (.struct fs) => if P.stoodInHeld t then none else match leafFields (leafKinds d) fs.toList 0 with
      | some ks => if szOf P t = some ks.length then some ks else none
      | none => none
    | _ => none

def okEqK (k : EqK) (t : TypeId) (x y : Operand) : Bool :=
  match k, P.underlying t with
  | .bool, some .bool => true
  | .ptr, some (.pointer _) => true
  | .slice, some (.slice _) => true
  | .func, some (.func _ _ _) => true
  | .iface, some (.interface _) => (x matches .const _) || (y matches .const _)
  | .agg ks, some (.struct _) => leafKinds P 8 t == some ks && !P.eqGuardType P.depth t
  | _, _ => false

def okMove (x : Opnd) : Op → Bool
  | .move y | .assign y => okOpnd x y
  | _ => false

/-- Is it the operation? ('type': the operation's own.) -/
def okOp (io : IOp) (o : Op) : Bool :=
  match io, o with
  | .mov x, o => okMove x o
  | .strid x, .convert s d y => okOpnd x y && (P.underlying d matches some .string) && (P.underlying s matches some .string)
  | .strish x, .convert s d y => okOpnd x y && s == d && (match P.underlying s with | some (.slice e) => (match P.underlying e with | some (.int .u8) => true | _ => false) | _ => false)
  | .pick c a b, .pick c' a' b' => okOpnd c c' && okOpnd a a' && okOpnd b b'
  | .alloc zero, .alloc t => okZero P t zero
  | .box x, .box _ y => okOpnd x y
  | .build zero parts, .build t ps => okZero P t zero && match P.underlying t with
    | some (.struct fs) => fs.toList.all (fun f => (szOf P f.type).isSome) && okParts (placeOf P fs) parts ps.toList
    | some (.array _ e) => match szOf P e with
      | some n => okParts (fun i => some (i * n, n)) parts ps.toList
      | none => false
    | _ => false
  | .mklist _ sz len zero parts, .buildSlice t len' ps => len == len' && match P.underlying t with
    | some (.slice e) => szOf P e == some sz && okZero P e zero && zero.length == sz && decide (1 ≤ sz) && decide (len * sz ≤ 2 ^ 24) && okParts (fun i => some (i * sz, sz)) parts ps.toList
    | _ => false
  | .load n x, .load t y => okAgg P t n && okOpnd x y
  | .store n a x, .store t b y => szOf P t == some n && okOpnd a b && okOpnd x y
  | .nilchk x, .nilCheck y => okOpnd x y
  | .bin op x y, .binOp op' _ x' y' _ => op == op' && okOpnd x x' && okOpnd y y'
  | .eqv k neg x y, .binOp op t x' y' _ => op == (if neg then .neq else .eql) && okEqK P k t x' y' && okOpnd x x' && okOpnd y y'
  | .un op x, .unOp op' _ y => op == op' && okOpnd x y
  | .toint k x, .convert s d y => okOpnd x y && (P.underlying s).isSome && (P.underlying s matches some (.int _)) && (match P.underlying d with | some (.int k') => k == k' | _ => false)
  | .tofloat k x, .convert s d y => okOpnd x y && (P.underlying s matches some (.int _)) && (match P.underlying d with | some (.float k') => k == k' | _ => false)
  | .strbytes _ x, .convert s d y => okOpnd x y && (P.underlying s matches some .string) && (match P.underlying d with | some (.slice e) => (match P.underlying e with | some (.int .u8) => szOf P e == some 1 | _ => false) | _ => false)
  | .bytesstr x, .convert s d y => okOpnd x y && (P.underlying d matches some .string) && (match P.underlying s with | some (.slice e) => (match P.underlying e with | some (.int .u8) => true | _ => false) | _ => false)
  | .intstr x, .convert s d y => okOpnd x y && (P.underlying d matches some .string) && (P.underlying s matches some (.int _))
  | .iface t x, .makeInterface t' y => t == t' && okOpnd x y && (match P.underlying t' with | some (.interface _) => false | some _ => true | none => false)
  | .mkfn fn a b, .makeFunc fn' a' b' => fn == fn' && okOpnds a a'.toList && okOpnds b b'.toList
  | .mkslice _ bytes sz zero l c, .makeSlice t l' c' => okOpnd l l' && okOpnd c c' && match P.underlying t with
    | some (.slice e) => (P.info? e).any (fun i => i.bytes == bytes && i.size == sz) && okZero P e zero && zero.length == sz && decide (1 ≤ sz)
    | _ => false
  | .slstr x lo hi, .slice t y lo' hi' none => okOpnd x y && okOpndO lo lo' && okOpndO hi hi' && (P.underlying t matches some .string)
  | .sl sz x lo hi mx, .slice t y lo' hi' mx' => okOpnd x y && okOpndO lo lo' && okOpndO hi hi' && okOpndO mx mx' && (mx'.isNone || hi'.isSome) && match P.underlying t with
    | some (.slice e) => szOf P e == some sz
    | _ => false
  | .slarr n sz x lo hi mx, .slice t y lo' hi' mx' => okOpnd x y && okOpndO lo lo' && okOpndO hi hi' && okOpndO mx mx' && (mx'.isNone || hi'.isSome) && match P.underlying t with
    | some (.array n' e) => n == n' && szOf P e == some sz
    | some (.pointer a) => match P.underlying a with
      | some (.array n' e) => n == n' && szOf P e == some sz
      | _ => false
    | _ => false
  | .flda off x, .fieldAddr t y i => okOpnd x y && match P.underlying t with
    | some (.struct fs) => match fs[i]? with
      | some f => f.offset == off && (match szOf P f.type with | some n => n != 0 | none => false)
      | none => false
    | _ => false
  | .fld n off x, .field t y i => okOpnd x y && match P.underlying t with
    | some (.struct fs) => match fs[i]? with
      | some f => f.offset == off && okAgg P f.type n
      | none => false
    | _ => false
  | .idxa sz x i, .indexAddr t y j => okOpnd x y && okOpnd i j && match P.underlying t with
    | some (.slice e) => szOf P e == some sz
    | _ => false
  | .idxarr len sz x i, .indexAddr t y j => okOpnd x y && okOpnd i j && match P.underlying t with
    | some (.array n e) => len == n && szOf P e == some sz
    | _ => false
  | .idxs x i, .index t y j => okOpnd x y && okOpnd i j && (P.underlying t matches some .string)
  | .idxv len n sz x i, .index t y j => okOpnd x y && okOpnd i j && match P.underlying t with
    | some (.array k e) => len == k && szOf P e == some sz && okAgg P e n
    | _ => false
  | .ext x i, .extract y j => okOpnd x y && i == j
  | .len str x, .call c => match c.callee with
    | .builtin .len => okOpnds [x] c.args.toList && (match c.argTypes[0]? with
      | some t => (match P.underlying t with | some .string => str | some (.slice _) => !str | _ => false)
      | none => false)
    | _ => false
  | .lenc n, .call c => match c.callee with
    | .builtin .len => c.args.size == 1 && (match c.argTypes[0]? with
      | some t => (match P.underlying t with
        | some (.array k _) => n == k
        | some (.pointer a) => (match P.underlying a with | some (.array k _) => n == k | _ => false)
        | _ => false)
      | none => false)
    | _ => false
  | .append _ sz bytes x y, .call c => match c.callee with
    | .builtin .append => okOpnds [x, y] c.args.toList && decide (1 ≤ sz) && (match c.argTypes[0]?, c.argTypes[1]? with
      | some t, some u => (match P.underlying t with | some (.slice e) => (P.info? e).any (fun i => i.bytes == bytes && i.size == sz && (match i.zero with | some z => z.cells.size == sz | none => false)) | _ => false) &&
        (match P.underlying u with | some .string | some (.slice _) => true | _ => false)
      | _, _ => false)
    | _ => false
  | .minmax mx xs, .call c => match c.callee with
    | .builtin .max => mx && okOpnds xs c.args.toList
    | .builtin .min => !mx && okOpnds xs c.args.toList
    | _ => false
  | .rng x, .range t y => okOpnd x y && (P.underlying t matches some .string)
  | .nxt x, .next y b => b && okOpnd x y
  | .call f args, .call c => match c.callee with
    | .value (.func g) => f == g && okOpnds args c.args.toList
    | _ => false
  | .callv x args, .call c => match c.callee with
    | .value y => okOpnd x y && okOpnds args c.args.toList
    | _ => false
  | _, _ => false

def okGuard (os : Array Oper) : Option (Nat × Bool) → Option (Nat × Bool) → Bool
  | none, none => true
  | some (t, b), some (j, b') => b == b' && (os[j]?).bind (·.dst) == some t
  | _, _ => false

/-- Is it the operation, of a region of a function of so many temporaries? -/
def okOper (N : Nat) (os : Array Oper) (io : IOper) (o : Oper) : Bool :=
  okOp P io.op o.op && io.dst == o.dst && (match o.dst with | some d => decide (d < N) | none => true) && okGuard os io.guard o.guard

def okOpers (N : Nat) (os : Array Oper) : List IOper → List Oper → Bool
  | [], [] => true
  | io :: ios, o :: l => okOper P N os io o && okOpers N os ios l
  | _, _ => false

/-! ### Regions whose order is open -/

/-- What an operation does to the state: nothing; it reads; it writes, or makes memory. -/
inductive Cls where
  | pure
  | read
  | eff
  deriving DecidableEq

def cls (pf : FuncId → Bool) : IOp → Cls
  | .alloc _ | .box _ | .store _ _ _ | .append _ _ _ _ _ | .copy _ _ _ | .mkslice _ _ _ _ _ _ | .rng _ | .nxt _ | .callv _ _ => .eff
  | .mklist row _ _ _ _ => if row then .eff else .pure
  | .load _ _ | .bytesstr _ => .read
  | .call f _ => if pf f then .read else .eff
  | _ => .pure

/-- What is ahead of each operation, by bits. -/
def befs (os : List Oper) (acc : List Nat) : List Nat :=
  match os with
  | [] => acc
  | o :: l => befs l (acc ++ [o.after.toList.foldl (fun s e => if Region.binds .any e then s ||| 2 ^ e.on ||| acc.getD e.on 0 else s) 0])

def opndT : Opnd → List Nat
  | .t n => [n]
  | _ => []

/-- The temporaries that an operation looks at. -/
def IOp.reads : IOp → List Nat
  | .mov x | .box x | .load _ x | .nilchk x | .un _ x | .toint _ x | .tofloat _ x | .strbytes _ x | .bytesstr x | .intstr x | .strid x | .strish x | .strrunes x | .runesstr x | .iface _ x
  | .flda _ x | .fld _ _ x | .ext x _ | .len _ x | .rng x | .nxt x => opndT x
  | .pick c a b => opndT c ++ opndT a ++ opndT b
  | .alloc _ | .lenc _ => []
  | .build _ ps | .mklist _ _ _ _ ps => ps.flatMap fun p => opndT p.2.2
  | .store _ a x | .bin _ a x | .eqv _ _ a x | .mkslice _ _ _ _ a x | .idxa _ a x | .idxarr _ _ a x | .idxs a x | .idxv _ _ _ a x | .append _ _ _ a x | .copy _ a x => opndT a ++ opndT x
  | .mkfn _ a b => (a ++ b).flatMap opndT
  | .slstr x lo hi => opndT x ++ lo.toList.flatMap opndT ++ hi.toList.flatMap opndT
  | .sl _ x lo hi mx | .slarr _ _ x lo hi mx => opndT x ++ lo.toList.flatMap opndT ++ hi.toList.flatMap opndT ++ mx.toList.flatMap opndT
  | .minmax _ xs => xs.flatMap opndT
  | .call _ args => args.flatMap opndT
  | .callv x args => opndT x ++ args.flatMap opndT

def IOper.reads (o : IOper) : List Nat := o.op.reads ++ (match o.guard with | some (t, _) => [t] | none => [])

/-- May two operations, the first ahead of the second in the text and not in the order, be carried out in either order? -/
def okPair (pf : FuncId → Bool) (pairs : List (Nat × Nat)) (i j : Nat) (x y : IOper) : Bool :=
  (match cls pf x.op, cls pf y.op with
   | .eff, .eff => false
   | .read, .eff => pairs.contains (i, j)
   | .eff, .read => pairs.contains (j, i)
   | _, _ => true) &&
  (match x.dst with | some d => !y.reads.contains d && y.dst != some d | none => true) &&
  (match y.dst with | some d => !x.reads.contains d | none => true)

/-- No temporary is laid twice in a region. -/
def onceDst : List IOper → Bool
  | [] => true
  | x :: l => (match x.dst with | some d => l.all (fun y => y.dst != some d) | none => true) && onceDst l

def okOrder (pf : FuncId → Bool) (pairs : List (Nat × Nat)) (ios : List IOper) (os : Array Oper) : Bool :=
  let bs := befs os.toList []
  onceDst ios &&
  (os.toList.zipIdx.all fun (o, i) => o.after.all fun e => !Region.binds .any e || decide (e.on < i)) &&
  (ios.zipIdx.all fun (y, j) => ios.zipIdx.all fun (x, i) => !decide (i < j) || (bs.getD j 0).testBit i || okPair pf pairs i j x y) &&
  pairs.all fun (r, e) => (match ios[r]? with | some x => cls pf x.op == .read | none => false) && (match ios[e]? with | some x => cls pf x.op == .eff | none => false)

def okCode (N : Nat) (pf : FuncId → Bool) : IC → Code → Bool
  | .skip, .skip => true
  | .reg ios, .region _ os dr => okOpers P N os ios os.toList && (!dr || okOrder pf [] ios os)
  | .regd ios pairs, .region _ os dr => okOpers P N os ios os.toList && dr && okOrder pf pairs ios os
  | .seq a b, .seq c d => okCode N pf a c && okCode N pf b d
  | .cond x a b, .cond y c d => okOpnd x y && okCode N pf a c && okCode N pf b d
  | .block id b, .block id' c => id == id' && okCode N pf b c
  | .loop b, .loop c => okCode N pf b c
  | .exit id, .exit id' => id == id'
  | .ret, .ret => true
  | .keep _ b, c => okCode N pf b c
  | _, _ => false

def okRes : List IRes → List ResultVar → Bool
  | [], [] => true
  | .tmp t :: l, .tmp u :: m => t == u && okRes l m
  | .cell x n :: l, .cell y t :: m => x == y && okAgg P t n && okRes l m
  | _, _ => false

def okFun (pf : FuncId → Bool) (fn : IFun) (f : Func) : Bool :=
  f.name != "runtime.NumGoroutine" && okRes P fn.res f.results.toList && decide (fn.nargs ≤ f.ntmps) &&
  (match f.body with | some c => okCode P f.ntmps pf fn.body c | none => false)

end Go.Pv
