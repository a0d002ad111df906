/-
  Is an abstract text the text of a function? A check by computation.
-/
import Derived.Test.YtleilicpggnemaaMachB
import Derived.Laws.AppendOwn
namespace Go.Ab
open Go

def constOk : V → Value → Bool
  | .bool a, .bool b => a == b
  | .int k a, .int k' b => k == k' && a == b
  | .str a, .string b => a.data.toList == b.data.toList
  | .nilp, .pointer none => true
  | .nilf, .nilFunc => true
  | .nils _, .slice none 0 0 => true
  | .undef, _ => true
  | _, _ => false

def okX : X → Operand → Bool
  | .t n, .tmp m => n == m
  | .k (.fn f [] []), .func g => f == g
  | .k v, .const c => constOk v c
  | _, _ => false

def okXs : List X → List Operand → Bool
  | [], [] => true
  | x :: l, y :: m => okX x y && okXs l m
  | _, _ => false

/-- A zero value's cells. -/
def zOk : List V → List Value → Bool
  | [], [] => true
  | v :: l, u :: m => constOk v u && zOk l m
  | _, _ => false
/-- The same, where nil slices may become objects. -/
def zOwn : List V → List Value → Bool
  | [], [] => true
  | .own _ [] :: l, .slice none 0 0 :: m => zOwn l m
  | v :: l, u :: m => constOk v u && zOwn l m
  | _, _ => false

def szOk (P : Program) (t : TypeId) (n : Nat) : Bool := (P.info? t).any fun i => i.size == n
def rowOk (P : Program) (t : TypeId) (b : Bool) : Bool :=
  match P.underlying t with
  | some (.struct _) => b
  | some (.array _ _) => b
  | some _ => !b
  | none => false
def zeroIs (P : Program) (t : TypeId) (f : Value → Bool) : Bool := (P.info? t).any fun i => match i.zero with | some z => f z | none => false

/-- The kinds of a type's cells, where '==' compares them one by one. -/
def leavesF (P : Program) (f : TypeId → Option (List Nat)) : List Field → Nat → Option (List Nat)
  | [], _ => some []
  | fd :: fs, off => if fd.offset == off && fd.name != "_" then
      match f fd.type with
      | some ks => if szOk P fd.type ks.length then (leavesF P f fs (off + ks.length)).map (ks ++ ·) else none
      | none => none
    else none
def leaves (P : Program) : Nat → TypeId → Option (List Nat)
  | 0, _ => none
  | d + 1, t => match P.underlying t with
    | some .bool => some [1]
    | some (.int _) => some [0]
    | some .string => some [2]
    | some (.struct fs) => if P.stoodInHeld t then none else leavesF P (leaves P d) fs.toList 0
    | some (.array n e) => match leaves P d e with
      | some ks => if szOk P e ks.length then some (List.replicate n ks).flatten else none
      | none => none
    | _ => none

def okParts (fs : Array Field) (P : Program) : List (Nat × Nat × X) → List (Nat × Operand) → Bool
  | [], [] => true
  | (off, n, x) :: l, (i, y) :: m => (match fs[i]? with | some f => f.offset == off && szOk P f.type n | none => false) && okX x y && okParts fs P l m
  | _, _ => false
def okPartsA (s len : Nat) : List (Nat × Nat × X) → List (Nat × Operand) → Bool
  | [], [] => true
  | (off, n, x) :: l, (i, y) :: m => i < len && off == i * s && n == s && okX x y && okPartsA s len l m
  | _, _ => false
/-- All elements, in order. -/
def okDense (k : Nat) : List X → List (Nat × Operand) → Bool
  | [], [] => true
  | x :: l, (i, y) :: m => i == k && okX x y && okDense (k + 1) l m
  | _, _ => false

def okPm : Pm → Operand → Bool
  | .ro x, y => okX x y
  | .io x _, y => okX x y
  | .mv x _, y => okX x y
def okPms : List Pm → List Operand → Bool
  | [], [] => true
  | x :: l, y :: m => okPm x y && okPms l m
  | _, _ => false

def okO' : Option X → Option Operand → Bool
  | none, none => true
  | some x, some y => okX x y
  | _, _ => false

def plainOp : BinOp → Bool
  | .shl | .shr | .and | .or | .xor | .andNot => false
  | _ => true

def sliceElem (P : Program) (t : TypeId) (s : Nat) : Bool :=
  match P.underlying t with
  | some (.slice e) => szOk P e s
  | _ => false

def isNil : Operand → Bool
  | .const (.slice none 0 0) => true
  | _ => false

def okOp (P : Program) (o : O) (op : Op) : Bool :=
  match o, op with
  | .mv x, .move y => okX x y
  | .mv x, .assign y => okX x y
  | .pick c a b, .pick c' a' b' => okX c c' && okX a a' && okX b b'
  | .box x _, .box _ y => okX x y
  | .alloc z _ _, .alloc t => zeroIs P t fun v => zOwn z v.cells.toList && v.cells.all (·.oneCell')
  | .nil _ _, .move y => isNil y
  | .nil _ _, .assign y => isNil y
  | .build z parts, .build t ps => zeroIs P t (fun v => zOk z v.cells.toList && v.cells.all (·.oneCell')) && parts.all (fun p => decide (p.1 + p.2.1 ≤ z.length)) && (match P.underlying t with
    | some (.struct fs) => okParts fs P parts ps.toList && fs.all (fun f => (P.info? f.type).isSome)
    | some (.array len e) => (P.info? e).any fun i => okPartsA i.size len parts ps.toList
    | _ => false)
  | .bsl s parts _, .buildSlice t len ps => (match P.underlying t with
    | some (.slice e) => szOk P e s && decide (0 < s) && zeroIs P e (fun z => z.cells.size == s)
    | _ => false) && len == parts.length && decide (len * s ≤ 16777216) && okDense 0 parts ps.toList
  | .load agg n x, .load t y => szOk P t n && rowOk P t agg && (agg || n == 1) && okX x y
  | .store n x v, .store t y u => szOk P t n && decide (0 < n) && okX x y && okX v u
  | .faddr off x, .fieldAddr t y f => (match P.underlying t with
    | some (.struct fs) => (match fs[f]? with | some fd => fd.offset == off && (P.info? fd.type).any (fun i => i.size != 0) | none => false)
    | _ => false) && okX x y
  | .iaddr s len x i, .indexAddr t y j => (match P.underlying t, len with
    | some (.slice e), none => szOk P e s
    | some (.array l e), some l' => l == l' && szOk P e s
    | _, _ => false) && okX x y && okX i j
  | .field agg off n x, .field t y f => (match P.underlying t with
    | some (.struct fs) => (match fs[f]? with | some fd => fd.offset == off && szOk P fd.type n && rowOk P fd.type agg && (agg || n == 1) | none => false)
    | _ => false) && okX x y
  | .index agg s len x i, .index t y j => (match P.underlying t with
    | some (.array l e) => l == len && szOk P e s && rowOk P e agg && (agg || s == 1)
    | _ => false) && okX x y && okX i j
  | .sidx x i, .index t y j => (match P.underlying t with | some .string => true | _ => false) && okX x y && okX i j
  | .ext k x, .extract y j => k == j && okX x y
  | .bin b x y, .binOp b' _ x' y' _ => b == b' && plainOp b && okX x x' && okX y y'
  | .eqs ng x y, .binOp b _ x' y' _ => (b == .eql && !ng || b == .neq && ng) && okX x x' && okX y y'
  | .eqb ng x y, .binOp b t x' y' _ => (b == .eql && !ng || b == .neq && ng) && (match P.underlying t with | some .bool => true | _ => false) && okX x x' && okX y y'
  | .eqa ng ks x y, .binOp b t x' y' _ => (b == .eql && !ng || b == .neq && ng) && leaves P 8 t == some ks && rowOk P t true && !P.eqGuardType P.depth t && okX x x' && okX y y'
  | .not x, .unOp u _ y => u == .not && okX x y
  | .neg x, .unOp u _ y => u == .neg && okX x y
  | .len x, .call c => (match c.callee, c.args.toList, c.argTypes.toList with
    | .builtin .len, [y], [t] => (match P.underlying t with | some (.slice _) => true | _ => false) && okX x y
    | _, _, _ => false)
  | .slen x, .call c => (match c.callee, c.args.toList, c.argTypes.toList with
    | .builtin .len, [y], [t] => (match P.underlying t with | some .string => true | _ => false) && okX x y
    | _, _, _ => false)
  | .app s bytes x y _, .call c => (match c.callee, c.args.toList, c.argTypes.toList with
    | .builtin .append, [x', y'], [t, t'] => (match P.underlying t with
      | some (.slice e) => (P.info? e).any (fun i => i.size == s && i.bytes == bytes && decide (0 < bytes) && decide (0 < s) && (match i.zero with | some z => z.cells.size == s | none => false))
      | _ => false) && (match P.underlying t' with | some (.slice _) => true | _ => false) && okX x x' && okX y y'
    | _, _, _ => false)
  | .slice s x lo hi, .slice t y l h mx => sliceElem P t s && okX x y && okO' lo l && okO' hi h && mx.isNone
  | .sslice x lo hi, .slice t y l h mx => (match P.underlying t with | some .string => true | _ => false) && okX x y && okO' lo l && okO' hi h && mx.isNone
  | .mks s bytes z n _, .makeSlice t l c => (match P.underlying t with
    | some (.slice e) => (P.info? e).any (fun i => i.size == s && i.bytes == bytes && decide (0 < s) && (match i.zero with | some u => zOk z u.cells.toList && z.length == s && V.closedL z && u.cells.all (·.oneCell') | none => false))
    | _ => false) && okX n l && okX n c
  | .mkf f first caps, .makeFunc (.func g) a b => f == g && okXs first a.toList && okXs caps b.toList
  | .max x y, .call c => (match c.callee, c.args.toList with | .builtin .max, [x', y'] => okX x x' && okX y y' | _, _ => false)
  | .min x y, .call c => (match c.callee, c.args.toList with | .builtin .min, [x', y'] => okX x x' && okX y y' | _, _ => false)
  | .call f args _, .call c => (match c.callee with | .value (.func g) => f == g && callable P f && okPms args c.args.toList | _ => false)
  | .calln x args _, .call c => (match c.callee with | .value y => okX x y && okPms args c.args.toList | _ => false)
  | .loadb n x, .load t y => szOk P t n && rowOk P t true && (true || n == 1) && okX x y
  | .nilchk x, .nilCheck y => okX x y
  | _, _ => false

/-- How many slots a function has, and those that are never written: of parameters. -/
structure Sz where
  n : Nat
  pins : List Nat

def okGuard (ops : Array Oper) (ntmps : Sz) : Option (Nat × Bool) → Option (Nat × Bool) → Bool
  | none, none => true
  | some (t, w), some (j, w') => w == w' && decide (t < ntmps.n) && (match ops[j]? with | some o => o.dst == some t | none => false)
  | _, _ => false

def okDst (ntmps : Sz) : Option Nat → Option Nat → Bool
  | none, none => true
  | some d, some e => d == e && decide (d < ntmps.n) && !inl ntmps.pins d
  | _, _ => false

def okOper (P : Program) (ops : Array Oper) (ntmps : Sz) (o : Op') (p : Oper) : Bool :=
  okDst ntmps o.dst p.dst && okOp P o.op p.op && okGuard ops ntmps o.guard p.guard

def okOpers (P : Program) (ops : Array Oper) (ntmps : Sz) : List Op' → List Oper → Bool
  | [], [] => true
  | o :: l, p :: m => okOper P ops ntmps o p && okOpers P ops ntmps l m
  | _, _ => false

/-- What must have been done ahead of an operation, of one after the other. -/
def ancs (l : List Oper) : List (List Nat) :=
  l.foldl (fun acc o => acc ++ [((o.after.toList.filter fun e => Region.binds .any e).map (·.on)).flatMap fun e => e :: acc.getD e []]) []

def isPure : O → Bool
  | .mv _ | .pick _ _ _ | .build _ _ | .field _ _ _ _ | .index _ _ _ _ _ | .sidx _ _ | .ext _ _ | .bin _ _ _ | .eqs _ _ _ | .eqb _ _ _ | .eqa _ _ _ _ | .not _ | .neg _ | .len _ | .slen _ | .sslice _ _ _
  | .mkf _ _ _ | .max _ _ | .min _ _ | .faddr _ _ | .nilchk _ => true
  | _ => false
def isStore : O → Bool
  | .store _ _ _ => true
  | _ => false

def okClass (o : O) : Nat → Bool
  | 0 => isPure o
  | 1 => true
  | 2 => isStore o
  | _ => true

def okPair : Nat → Nat → Bool
  | 0, 0 | 0, 1 | 1, 0 | 1, 1 | 0, 2 | 2, 0 => true
  | _, _ => false

def X.tmps : X → List Nat
  | .t n => [n]
  | .k _ => []
/-- The operands of an operation. -/
def O.xs : O → List X
  | .mv x => [x]
  | .pick c a b => [c, a, b]
  | .box x _ => [x]
  | .alloc _ _ _ => []
  | .nil _ _ => []
  | .build _ parts => parts.map (·.2.2)
  | .bsl _ parts _ => parts
  | .load _ _ x => [x]
  | .store _ x v => [x, v]
  | .faddr _ x => [x]
  | .iaddr _ _ x i => [x, i]
  | .field _ _ _ x => [x]
  | .index _ _ _ x i => [x, i]
  | .sidx x i => [x, i]
  | .ext _ x => [x]
  | .bin _ x y => [x, y]
  | .eqs _ x y => [x, y]
  | .eqb _ x y => [x, y]
  | .eqa _ _ x y => [x, y]
  | .not x => [x]
  | .neg x => [x]
  | .len x => [x]
  | .slen x => [x]
  | .app _ _ x y _ => [x, y]
  | .slice _ x lo hi => [x] ++ lo.toList ++ hi.toList
  | .sslice x lo hi => [x] ++ lo.toList ++ hi.toList
  | .mks _ _ _ n _ => [n]
  | .mkf _ first caps => first ++ caps
  | .max x y => [x, y]
  | .min x y => [x, y]
  | .call _ args _ => args.map Pm.x
  | .calln x args _ => x :: args.map Pm.x
  | .nilchk x => [x]
  | .loadb _ x => [x]
/-- The slots that an operation looks at. -/
def Op'.looks (o : Op') : List Nat := o.op.xs.flatMap X.tmps ++ (match o.guard with | some (t, _) => [t] | none => [])
/-- The names that an operation may take. -/
def O.names : O → List Nat
  | .box _ r => [r]
  | .alloc _ r objs => r :: objs
  | .nil _ r => [r]
  | .bsl _ _ mode => mode.toList
  | .mks _ _ _ _ mode => mode.toList
  | .app _ _ _ _ mode => mode.toList
  | .call _ _ objs => objs
  | .calln _ _ objs => objs
  | _ => []
def apartO (x y : Op') : Bool :=
  (match x.dst with | some d => !inl y.looks d && y.dst != some d | none => true) && (match y.dst with | some d => !inl x.looks d | none => true) && x.op.names.all fun r => !inl y.op.names r

def X.okK : X → Bool
  | .t _ => true
  | .k .undef => true
  | .k v => v.closed

def afterB (ops : Array Oper) (i : Nat) : List Nat :=
  match ops[i]? with
  | some o => (o.after.toList.filter fun e => Region.binds .any e).map (·.on)
  | none => []

/-- Two operations, one behind the other in the text: may the later one be done first? -/
def pairOk (l : List (Op' × Nat)) (x i : Nat) : Bool :=
  match l[x]?, l[i]? with
  | some lx, some li => okPair lx.2 li.2 && apartO lx.1 li.1
  | _, _ => false

/-- An append, and right behind it in the text the load of a struct out of a local variable. -/
def swapOk (x y : Op' × Nat) : Bool :=
  (match x.1.op with | .app _ _ _ _ none => true | _ => false) && x.2 == 3 && (match y.1.op with | .loadb _ _ => true | _ => false) && apartO x.1 y.1
def swapAt (l : List (Op' × Nat)) (x i : Nat) : Bool :=
  x + 1 == i && (match l[x]?, l[i]? with
  | some lx, some li => swapOk lx li
  | _, _ => false)

/-- May each operation be done as soon as what must be ahead of it is done? -/
def okD (ops : Array Oper) (l : List (Op' × Nat)) : Bool :=
  let an := ancs ops.toList
  l.all (fun o => okClass o.1.op o.2 && o.1.op.xs.all X.okK) && l.length == ops.size &&
  (List.range ops.size).all fun i => (afterB ops i).all (fun e => decide (e < i)) && (an.getD i []).all (fun x => (afterB ops i).any fun e => e == x || inl (an.getD e []) x) &&
    (List.range i).all fun x => inl (an.getD i []) x || (pairOk l x i || swapAt l x i)

def okC (P : Program) (ntmps : Sz) : C → Code → Bool
  | .skip, .skip => true
  | .ret, .ret => true
  | .exit i, .exit j => i == j
  | .reg _ ops, .region _ ops' draw => okOpers P ops' ntmps ops ops'.toList && !draw
  | .regd _ ops, .region _ ops' _ => okOpers P ops' ntmps (ops.map (·.1)) ops'.toList && okD ops' ops
  | .seq a b, .seq a' b' => okC P ntmps a a' && okC P ntmps b b'
  | .cond x a b, .cond y a' b' => okX x y && okC P ntmps a a' && okC P ntmps b b'
  | .blk i b, .block j b' => i == j && okC P ntmps b b'
  | .loop _ _ b, .loop b' => okC P ntmps b b'
  | .fgt _ _ _ b, b' => okC P ntmps b b'
  | _, _ => false

end Go.Ab
