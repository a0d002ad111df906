/-
  What a function's text comes to, over abstract values: a proposition, by the text's own shape.
-/
import Derived.Test.YtleilicpggnemaaMachR
namespace Go.Ab
open Go

/-- The cells of a value. -/
def V.cells : V → List V
  | .agg cs => cs
  | v => [v]

/-- A value that a variable may hold. -/
def V.val : V → Bool
  | .undef => false
  | .tup _ => false
  | .own _ _ => false
  | .io _ => false
  | _ => true

def setR (cs : List V) (off : Nat) : List V → List V
  | [v] => cs.set off v
  | vs => cs.take off ++ vs ++ cs.drop (off + vs.length)

def pickc (agg : Bool) (n off : Nat) (cs : List V) : V := if agg then .agg ((cs.drop off).take n) else cs.getD off .undef

mutual
/-- A value as one reads it: no objects, and nothing new. -/
def V.sh : V → V
  | .sl _ s rows => .sl false s (V.shR rows)
  | .own s rows => .own s (V.shR rows)
  | .io cs => .io (V.shL cs)
  | .cp cs off => .cp (V.shL cs) off
  | .agg cs => .agg (V.shL cs)
  | .tup vs => .tup (V.shL vs)
  | .fn f a b => .fn f (V.shL a) (V.shL b)
  | v => v
def V.shL : List V → List V
  | [] => []
  | v :: l => V.sh v :: V.shL l
def V.shR : List (List V) → List (List V)
  | [] => []
  | r :: l => V.shL r :: V.shR l
end

/-- What one reads through a value: local objects turned into values. -/
def frz (st : St) : Nat → V → V
  | _ + 1, .sref r i m => match st.heap r with | .rows s rs => .sl false s ((rs.drop i).take m) | _ => .undef
  | _ + 1, .rptr r i off => match st.heap r with | .rows _ rs => .cp (rs.getD i []) off | _ => .undef
  | n + 1, .ptr r off => match st.heap r with | .box cs => .cp (cs.map (frz st n)) off | _ => .undef
  | _ + 1, .nils s => .sl false s []
  | n + 1, .agg cs => .agg (cs.map (frz st n))
  | n + 1, .tup cs => .tup (cs.map (frz st n))
  | n + 1, .fn f a b => .fn f (a.map (frz st n)) (b.map (frz st n))
  | _, v => v

/-- A cell as it is handed over to a callee that may change it: a whole local slice goes with it. -/
def giveC (st : St) : V → V
  | .sref r 0 n => match st.heap r with | .rows s rs => if n = rs.length then .own s rs else .undef | _ => .undef
  | .nils s => .own s []
  | v => v

/-- The object of a whole local slice. -/
def objC : V → List Nat
  | .sref r _ _ => [r]
  | _ => []

def V.okGiven : V → Bool
  | .own _ _ => true
  | v => v.closed && (match v with | .tup _ => false | .agg _ => false | _ => true)

/-- An argument as the callee sees it. sr: the state in which what is read alone is read. -/
def Pm.val (sr st : St) : Pm → V
  | .ro x => (frz sr 4 (x.ev sr)).sh
  | .io x n => match x.ev st with
    | .ptr r off => match st.heap r with | .box cs => if off + n ≤ cs.length then .io (((cs.drop off).take n).map fun c => (giveC st c).sh) else .undef | _ => .undef
    | _ => .undef
  | .mv x _ => (giveC st (x.ev st)).sh

def Pm.ok (sr st : St) (p : Pm) : Bool :=
  match p.val sr st, p with
  | v, .ro _ => v.closed
  | .io cs, .io _ _ => cs.all V.okGiven
  | .own _ _, .mv _ _ => true
  | _, _ => false

/-- Does an argument lead to no local object? -/
def Pm.plain (sr : St) : Pm → Bool
  | .ro x => (x.ev sr).closed
  | _ => true

/-- The objects that go with an argument. -/
def Pm.gone (st : St) : Pm → List Nat
  | .ro _ => []
  | .io x n => match x.ev st with
    | .ptr r off => match st.heap r with | .box cs => (((cs.drop off).take n).flatMap objC) | _ => []
    | _ => []
  | .mv x _ => objC (x.ev st)

/-- The variables that are handed over. -/
def Pm.box (st : St) : Pm → List Nat
  | .io x _ => match x.ev st with | .ptr r _ => [r] | _ => []
  | _ => []

/-- A cell that comes back: its own slice becomes an object, by the next name; without names a value. -/
def thawC (v : V) (ns : List Nat) : V × List Nat × List (Nat × AO) :=
  match v with
  | .own s rows => match ns with
    | r :: ns => (.sref r 0 rows.length, ns, [(r, .rows s rows)])
    | [] => (.sl true s rows, [], [])
  | v => (v, ns, [])
def thawL : List V → List Nat → List V × List Nat × List (Nat × AO)
  | [], ns => ([], ns, [])
  | v :: l, ns =>
    let a := thawC v ns
    let b := thawL l a.2.1
    (a.1 :: b.1, b.2.1, a.2.2 ++ b.2.2)
def thaw2 (v : V) (ns : List Nat) : V × List Nat × List (Nat × AO) :=
  match v with
  | .agg cs => let a := thawL cs ns; (.agg a.1, a.2.1, a.2.2)
  | v => thawC v ns
def thawT : List V → List Nat → List V × List Nat × List (Nat × AO)
  | [], ns => ([], ns, [])
  | v :: l, ns =>
    let a := thaw2 v ns
    let b := thawT l a.2.1
    (a.1 :: b.1, b.2.1, a.2.2 ++ b.2.2)
def thaw (v : V) (ns : List Nat) : V × List Nat × List (Nat × AO) :=
  match v with
  | .tup vs => let a := thawT vs ns; (.tup a.1, a.2.1, a.2.2)
  | v => thaw2 v ns

def St.sets (st : St) : List (Nat × AO) → St
  | [] => st
  | (r, o) :: l => (st.set r o).sets l

def AO.isDead : AO → Bool
  | .dead => true
  | _ => false

/-- What comes back into a variable that was handed over: slices go back into the objects that they were. -/
def backC (old new : V) : V × List (Nat × AO) :=
  match new, old with
  | .own s rows, .sref r _ _ => (.sref r 0 rows.length, [(r, .rows s rows)])
  | v, _ => (v, [])
def backL : List V → List V → List V × List (Nat × AO)
  | o :: os, n :: ns => let a := backC o n; let b := backL os ns; (a.1 :: b.1, a.2 ++ b.2)
  | _, _ => ([], [])

/-- Cells of a variable are not known. -/
def St.blank (st : St) (r off n : Nat) : St :=
  match st.heap r with
  | .box cs => st.set r (.box (setR cs off (List.replicate n .undef)))
  | _ => st
/-- The variables that are handed over, as long as they are. st: the state ahead of the call. -/
def blanks (st : St) : List Pm → St → St
  | .io x n :: ps, s => match x.ev st with
    | .ptr r off => blanks st ps (s.blank r off n)
    | _ => blanks st ps s
  | _ :: ps, s => blanks st ps s
  | [], s => s
/-- The cells of a variable that was handed over, ahead of the call. -/
def oldC (st : St) (r off n : Nat) : List V :=
  match st.heap r with
  | .box cs => (cs.drop off).take n
  | _ => []
/-- The state behind a call. st: the state ahead of it. -/
def backs (st : St) : List Pm → List V → St → St
  | .io x n :: ps, o :: os, s => match x.ev st, o with
    | .ptr r off, .io cs' => match s.heap r with
      | .box cs1 => backs st ps os ((s.sets (backL (oldC st r off n) cs').2).set r (.box (setR cs1 off (backL (oldC st r off n) cs').1)))
      | _ => backs st ps os s
    | _, _ => backs st ps os s
  | _ :: ps, _ :: os, s => backs st ps os s
  | _, _, s => s

/-- No own slice is left among cells. -/
def V.noOwn : V → Bool
  | .own _ _ => false
  | _ => true

def outsOk (st : St) : List Pm → List V → Bool
  | .io x n :: ps, o :: os => (match x.ev st, o with
      | .ptr r off, .io cs' => cs'.length == n && (backL (oldC st r off n) cs').1.all V.noOwn
      | _, _ => false) && outsOk st ps os
  | _ :: ps, _ :: os => outsOk st ps os
  | _, _ => true

def Pm.isIo : Pm → Bool
  | .io _ _ => true
  | _ => false

def nodupB : List Nat → Bool
  | [] => true
  | x :: l => !inl l x && nodupB l

/-- A call. -/
def call (P : Program) (f : FuncId) (args : List Pm) (objs : List Nat) (d : Option Nat) (st : St) (K : St → Prop) : Prop :=
  nodupB (args.flatMap (·.gone st) ++ args.flatMap (·.box st)) = true ∧ nodupB objs = true ∧ objs.all (fun r => (st.heap r).isDead) = true ∧
  args.all (·.ok (st.kills (args.flatMap (·.gone st) ++ args.flatMap (·.box st))) st) = true ∧
  ∃ (res : V) (outs : List V) (fr : Bool), CallsV P f (args.map (·.val (st.kills (args.flatMap (·.gone st) ++ args.flatMap (·.box st))) st)) res outs fr ∧
    (args.all (·.plain (st.kills (args.flatMap (·.gone st) ++ args.flatMap (·.box st)))) = true ∨ (fr = true ∧ args.any Pm.isIo = false)) ∧
    outsOk st args outs = true ∧
    K (((backs st args outs (blanks st args (st.kills (args.flatMap (·.gone st))))).sets (thaw res objs).2.2).put d (thaw res objs).1)

def callable (P : Program) (f : FuncId) : Bool :=
  match P.funcs[f]? with
  | some fn => fn.body.isSome && fn.name != "runtime.NumGoroutine"
  | none => false

def binI (op : BinOp) (k : IntKind) (a b : Int) (K : V → Prop) : Prop :=
  match op with
  | .add => K (.int k (k.wrap (a + b)))
  | .sub => K (.int k (k.wrap (a - b)))
  | .mul => K (.int k (k.wrap (a * b)))
  | .quo => b ≠ 0 ∧ K (.int k (k.wrap (a.tdiv b)))
  | .rem => b ≠ 0 ∧ K (.int k (a.tmod b))
  | .eql => K (.bool (a == b))
  | .neq => K (.bool (a != b))
  | .lss => K (.bool (a < b))
  | .leq => K (.bool (a ≤ b))
  | .gtr => K (.bool (a > b))
  | .geq => K (.bool (a ≥ b))
  | _ => False

/-- The equality of plain cells, of a kind. -/
def eqC : Nat → V → V → Option Bool
  | 0, .int k a, .int k' b => if k = k' then some (a == b) else none
  | 1, .bool a, .bool b => some (a == b)
  | 2, .str a, .str b => some (a.toList == b.toList)
  | _, _, _ => none
def eqK : List Nat → List V → List V → Option Bool
  | [], [], [] => some true
  | k :: ks, a :: l, b :: m => match eqC k a b, eqK ks l m with | some x, some y => some (x && y) | _, _ => none
  | _, _, _ => none

/-- The elements that are appended. -/
def srcRows (st : St) (s : Nat) : V → Option (List (List V))
  | .sl _ s' ys => if s' = s then some ys else none
  | .nils _ => some []
  | .sref r j m => match st.heap r with | .rows s' rs => if s' = s then some ((rs.drop j).take m) else none | _ => none
  | _ => none

/-- A new slice. -/
def newSl (s : Nat) (rows : List (List V)) (mode : Option Nat) (d : Option Nat) (st : St) (K : St → Prop) : Prop :=
  match mode with
  | none => K (st.put d (.sl true s rows))
  | some r => (st.heap r).isDead = true ∧ K ((st.set r (.rows s rows)).put d (.sref r 0 rows.length))

/-- An operation. -/
def eff (P : Program) (o : O) (d : Option Nat) (st : St) (K : St → Prop) : Prop :=
  match o with
  | .mv x => K (st.put d (x.ev st))
  | .pick c a b => match c.ev st, a.ev st, b.ev st with
    | .bool t, .bool x, .bool y => K (st.put d (.bool (bif t then x else y)))
    | .bool t, x, y => (t = true → K (st.put d x)) ∧ (t = false → K (st.put d y))
    | _, _, _ => False
  | .box x r => (x.ev st).val = true ∧ (st.heap r).isDead = true ∧ K ((st.set r (.box (x.ev st).cells)).put d (.ptr r 0))
  | .alloc z r objs => nodupB (r :: objs) = true ∧ (r :: objs).all (fun r => (st.heap r).isDead) = true ∧ K (((st.sets (thawL z objs).2.2).set r (.box (thawL z objs).1)).put d (.ptr r 0))
  | .nil s r => (st.heap r).isDead = true ∧ K ((st.set r (.rows s [])).put d (.sref r 0 0))
  | .build z parts => parts.all (fun p => (p.2.2.ev st).val && (p.2.2.ev st).cells.length == p.2.1) = true ∧ K (st.put d (.agg (parts.foldl (fun cs p => setR cs p.1 (p.2.2.ev st).cells) z)))
  | .bsl s parts mode => match parts with
    | [] => match mode with
      | none => K (st.put d (.nils s))
      | some r => (st.heap r).isDead = true ∧ K ((st.set r (.rows s [])).put d (.sref r 0 0))
    | _ => parts.all (fun p => (p.ev st).val && V.closedL (p.ev st).cells && (p.ev st).cells.length == s) = true ∧ newSl s (parts.map fun p => (p.ev st).cells) mode d st K
  | .load agg n x => match x.ev st with
    | .ptr r off => match st.heap r with
      | .box cs => off + n ≤ cs.length ∧ K (st.put d (pickc agg n off cs))
      | _ => False
    | .rptr r i off => match st.heap r with
      | .rows s rs => off + n ≤ s ∧ K (st.put d (pickc agg n off (rs.getD i [])))
      | _ => False
    | .cp cs off => off + n ≤ cs.length ∧ K (st.put d (pickc agg n off cs))
    | _ => False
  | .store n x v => (v.ev st).val = true ∧ (v.ev st).cells.length = n ∧ match x.ev st with
    | .ptr r off => match st.heap r with
      | .box cs => off + n ≤ cs.length ∧ K ((st.set r (.box (setR cs off (v.ev st).cells))).put d .undef)
      | _ => False
    | .rptr r i off => match st.heap r with
      | .rows s rs => V.closedL (v.ev st).cells = true ∧ off + n ≤ s ∧ K ((st.set r (.rows s (rs.set i (setR (rs.getD i []) off (v.ev st).cells)))).put d .undef)
      | _ => False
    | _ => False
  | .faddr off x => match x.ev st with
    | .ptr r o => K (st.put d (.ptr r (o + off)))
    | .rptr r i o => K (st.put d (.rptr r i (o + off)))
    | .cp cs o => K (st.put d (.cp cs (o + off)))
    | _ => False
  | .iaddr s len x i => match i.ev st with
    | .int _ n => match len with
      | none => match x.ev st with
        | .sl _ s' rows => s' = s ∧ 0 ≤ n ∧ n.toNat < rows.length ∧ K (st.put d (.cp (rows.getD n.toNat []) 0))
        | .sref r j m => match st.heap r with
          | .rows s' _ => s' = s ∧ 0 ≤ n ∧ n.toNat < m ∧ K (st.put d (.rptr r (j + n.toNat) 0))
          | _ => False
        | _ => False
      | some l => 0 ≤ n ∧ n.toNat < l ∧ match x.ev st with
        | .ptr r o => K (st.put d (.ptr r (o + n.toNat * s)))
        | .rptr r j o => K (st.put d (.rptr r j (o + n.toNat * s)))
        | .cp cs o => K (st.put d (.cp cs (o + n.toNat * s)))
        | _ => False
    | _ => False
  | .field agg off n x => match x.ev st with
    | .agg cs => off + n ≤ cs.length ∧ K (st.put d (pickc agg n off cs))
    | _ => False
  | .index agg s len x i => match x.ev st, i.ev st with
    | .agg cs, .int _ n => 0 ≤ n ∧ n.toNat < len ∧ cs.length = len * s ∧ K (st.put d (pickc agg s (n.toNat * s) cs))
    | _, _ => False
  | .sidx x i => match x.ev st, i.ev st with
    | .str b, .int _ n => 0 ≤ n ∧ n.toNat < b.size ∧ K (st.put d (.int .u8 (b.data.getD n.toNat 0).toNat))
    | _, _ => False
  | .ext k x => match x.ev st with
    | .tup vs => k < vs.length ∧ K (st.put d (vs.getD k .undef))
    | _ => False
  | .bin op x y => match x.ev st, y.ev st with
    | .int k a, .int k' b => k = k' ∧ binI op k a b fun v => K (st.put d v)
    | _, _ => False
  | .eqs ng x y => match x.ev st, y.ev st with
    | .str a, .str b => K (st.put d (.bool (ng ^^ (a.toList == b.toList))))
    | _, _ => False
  | .eqb ng x y => match x.ev st, y.ev st with
    | .bool a, .bool b => K (st.put d (.bool (ng ^^ (a == b))))
    | _, _ => False
  | .eqa ng ks x y => match x.ev st, y.ev st with
    | .agg a, .agg b => match eqK ks a b with
      | some r => K (st.put d (.bool (ng ^^ r)))
      | none => False
    | _, _ => False
  | .not x => match x.ev st with
    | .bool b => K (st.put d (.bool !b))
    | _ => False
  | .neg x => match x.ev st with
    | .int k n => K (st.put d (.int k (k.wrap (0 - n))))
    | _ => False
  | .len x => match x.ev st with
    | .sl _ _ rows => K (st.put d (.int .i64 rows.length))
    | .sref _ _ n => K (st.put d (.int .i64 n))
    | .nils _ => K (st.put d (.int .i64 0))
    | _ => False
  | .slen x => match x.ev st with
    | .str b => K (st.put d (.int .i64 b.size))
    | _ => False
  | .app s bytes x y mode => match srcRows st s (y.ev st) with
    | none => False
    | some ys => match x.ev st with
      | .nils _ => ys.length * bytes ≤ 140737488355328 ∧ newSl s ys mode d st K
      | .sref r i n => match st.heap r with
        | .rows s' rs => s' = s ∧ i = 0 ∧ n = rs.length ∧ (n + ys.length) * bytes ≤ 140737488355328 ∧ match mode with
          | none => K ((st.kills [r]).put d (.sl true s (rs ++ ys)))
          | some r' => r' = r ∧ K (((st.kills [r]).set r (.rows s (rs ++ ys))).put d (.sref r 0 (n + ys.length)))
        | _ => False
      | _ => False
  | .slice s x lo hi => match x.ev st, (match lo with | none => V.int .i64 0 | some l => l.ev st) with
    | .sl f s' rows, .int _ l => match (match hi with | none => V.int .i64 rows.length | some h => h.ev st) with
      | .int _ h => s' = s ∧ 0 ≤ l ∧ l ≤ h ∧ h ≤ rows.length ∧ K (st.put d (.sl f s ((rows.take h.toNat).drop l.toNat)))
      | _ => False
    | .sref r i n, .int _ l => match st.heap r, (match hi with | none => V.int .i64 n | some h => h.ev st) with
      | .rows s' _, .int _ h => s' = s ∧ 0 ≤ l ∧ l ≤ h ∧ h ≤ n ∧ K (st.put d (.sref r (i + l.toNat) (h.toNat - l.toNat)))
      | _, _ => False
    | _, _ => False
  | .sslice x lo hi => match x.ev st, (match lo with | none => V.int .i64 0 | some l => l.ev st) with
    | .str b, .int _ l => match (match hi with | none => V.int .i64 b.size | some h => h.ev st) with
      | .int _ h => 0 ≤ l ∧ l ≤ h ∧ h ≤ b.size ∧ K (st.put d (.str (b.extract l.toNat h.toNat)))
      | _ => False
    | _, _ => False
  | .mks s bytes z n mode => match n.ev st with
    | .int .i64 n => 0 ≤ n ∧ n ≤ 140737488355328 ∧ bytes * n ≤ 140737488355328 ∧ newSl s (List.replicate n.toNat z) mode d st K
    | _ => False
  | .mkf f first caps => K (st.put d (.fn f (first.map (·.ev st)) (caps.map (·.ev st))))
  | .max x y => match x.ev st, y.ev st with
    | .int k a, .int k' b => k = k' ∧ K (st.put d (.int k (if b > a then b else a)))
    | _, _ => False
  | .min x y => match x.ev st, y.ev st with
    | .int k a, .int k' b => k = k' ∧ K (st.put d (.int k (if b < a then b else a)))
    | _, _ => False
  | .call f args objs => call P f args objs d st K
  | .calln x args objs => match x.ev st with
    | .fn f first caps => callable P f = true ∧ V.closedL first = true ∧ V.closedL caps = true ∧ call P f (first.map (fun v => .ro (.k v)) ++ args ++ caps.map fun v => .ro (.k v)) objs d st K
    | _ => False
  | .loadb n x => match x.ev st with
    | .ptr r off => match st.heap r with
      | .box cs => off + n ≤ cs.length ∧ K (st.put d (pickc true n off cs))
      | _ => False
    | _ => False
  | .nilchk x => match x.ev st with
    | .ptr r o => K (st.put d (.ptr r o))
    | .rptr r i o => K (st.put d (.rptr r i o))
    | .cp cs o => K (st.put d (.cp cs o))
    | .fn f a b => K (st.put d (.fn f a b))
    | _ => False

/-- An operation behind its guard. -/
def effG (P : Program) (o : Op') (st : St) (K : St → Prop) : Prop :=
  match o.guard with
  | none => eff P o.op o.dst st K
  | some (t, w) => match st.env t with
    | .bool b => (b = w → eff P o.op o.dst (st.put (some t) (.bool w)) K) ∧ (b = !w → K ((st.put (some t) (.bool !w)).put o.dst (.tup [])))
    | .tup [] => K (st.put o.dst (.tup []))
    | _ => False

def wpOps (P : Program) : List Op' → St → (St → Prop) → Prop
  | [], st, K => K st
  | o :: l, st, K => effG P o st fun st' => wpOps P l st' K

/-- Is an operation, in this state, of class 1? -/
def quiet (o : Op') (st : St) : Prop :=
  match o.op with
  | .store _ _ _ => False
  | .app _ _ x _ _ => ∃ s, x.ev st = .nils s
  | .call _ args _ => args.all (fun p => match p with | .ro _ => true | _ => false) = true
  | .calln _ args _ => args.all (fun p => match p with | .ro _ => true | _ => false) = true
  | _ => True

def wpOpsD (P : Program) : List (Op' × Nat) → St → (St → Prop) → Prop
  | [], st, K => K st
  | o :: l, st, K => (o.2 = 1 → quiet o.1 st) ∧ effG P o.1 st fun st' => wpOpsD P l st' K

inductive Ex where
  | normal
  | exit (id : Nat)
  | ret

/-- What is carried from round to round. -/
def St.keep (st : St) (keep objs : List Nat) : St :=
  { env := tab .undef (keep.map fun t => (t, (st.env t).kill fun r => !inl objs r)), heap := tab .dead (objs.map fun r => (r, (st.heap r).kill fun r => !inl objs r)) }

def wpC (P : Program) : C → St → (Ex → St → Prop) → Prop
  | .skip, st, Q => Q .normal st
  | .ret, st, Q => Q .ret st
  | .exit id, st, Q => Q (.exit id) st
  | .reg names ops, st, Q => wpOps P ops (st.kills names) fun st => Q .normal st
  | .regd names ops, st, Q => wpOpsD P ops (st.kills names) fun st => Q .normal st
  | .seq a b, st, Q => wpC P a st fun e st => match e with
    | .normal => wpC P b st Q
    | e => Q e st
  | .cond x a b, st, Q => match x.ev st with
    | .bool t => (t = true → wpC P a st Q) ∧ (t = false → wpC P b st Q)
    | _ => False
  | .blk id b, st, Q => wpC P b st fun e st => match e with
    | .exit i => if i = id then Q .normal st else Q (.exit i) st
    | e => Q e st
  | .loop keep objs b, st, Q => ∃ I : St → Nat → Prop, (∃ m, I (st.keep keep objs) m) ∧
      ∀ st m, I st m → wpC P b st fun e st => match e with
        | .normal => ∃ m', m' < m ∧ I (st.keep keep objs) m'
        | e => Q e st
  | .fgt _ keep objs b, st, Q => wpC P b st fun e st => match e with
    | .normal => Q .normal (st.keep keep objs)
    | e => Q e st

end Go.Ab
