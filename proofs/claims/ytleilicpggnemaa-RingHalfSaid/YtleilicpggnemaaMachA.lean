/-
  The abstract machine: values by value, local objects by reference; what a function's text comes to, as a proposition ('wp'). No Go and no memory in it.
-/
import Derived.Calls
import Derived.Orders
namespace Go.Ab
open Go

/-- Abstract values. -/
inductive V where
  | undef
  | bool (b : Bool)
  | int (k : IntKind) (n : Int)
  | str (s : ByteArray)
  | nilp
  | nilf
  /-- a pointer into a local box, at a cell -/
  | ptr (r off : Nat)
  /-- a pointer into a local row object: which element, which cell of it -/
  | rptr (r i off : Nat)
  /-- a slice of a local row object: from which element, how many -/
  | sref (r i n : Nat)
  /-- a slice of length and capacity 0 -/
  | nils (s : Nat)
  /-- a slice by value: its elements, each a list of s cells; fr: it lies in memory that was made since the function began -/
  | sl (fr : Bool) (s : Nat) (rows : List (List V))
  /-- a pointer to cells that don't change, at a cell -/
  | cp (cells : List V) (off : Nat)
  | agg (cs : List V)
  | tup (vs : List V)
  | fn (f : FuncId) (first caps : List V)
  | mp (r : Nat)
  /-- at a call's border alone: a slice that nobody else holds; s: how many cells an element has -/
  | own (s : Nat) (rows : List (List V))
  /-- at a call's border alone: a pointer to cells that the callee may change -/
  | io (cells : List V)
  deriving Inhabited

mutual
/-- Does a value lead to a local object out of p? -/
def V.has (p : Nat → Bool) : V → Bool
  | .ptr r _ => p r
  | .rptr r _ _ => p r
  | .sref r _ _ => p r
  | .mp r => p r
  | .agg cs => V.hasL p cs
  | .tup vs => V.hasL p vs
  | .fn _ a b => V.hasL p a || V.hasL p b
  | _ => false
def V.hasL (p : Nat → Bool) : List V → Bool
  | [] => false
  | v :: l => V.has p v || V.hasL p l
end

mutual
/-- A value that leads to no local object, and is known. -/
def V.closed : V → Bool
  | .undef => false
  | .ptr _ _ => false
  | .rptr _ _ _ => false
  | .sref _ _ _ => false
  | .mp _ => false
  | .own _ _ => false
  | .io _ => false
  | .agg cs => V.closedL cs
  | .tup vs => V.closedL vs
  | .fn _ a b => V.closedL a && V.closedL b
  | .cp cs _ => V.closedL cs
  | _ => true
def V.closedL : List V → Bool
  | [] => true
  | v :: l => V.closed v && V.closedL l
end

/-- A cell without what leads to objects out of p. -/
def V.kill1 (p : Nat → Bool) (v : V) : V := if v.has p then .undef else v
/-- A component of a tuple, or a value, so. -/
def V.kill2 (p : Nat → Bool) : V → V
  | .agg cs => .agg (cs.map (V.kill1 p))
  | v => v.kill1 p
def V.kill (p : Nat → Bool) : V → V
  | .agg cs => .agg (cs.map (V.kill1 p))
  | .tup vs => .tup (vs.map (V.kill2 p))
  | v => v.kill1 p

/-- Local objects. -/
inductive AO where
  | dead
  /-- a variable: its cells -/
  | box (cells : List V)
  /-- a row of elements of s cells each: what a slice leads to -/
  | rows (s : Nat) (rs : List (List V))
  deriving Inhabited

def AO.kill (p : Nat → Bool) : AO → AO
  | .box cs => .box (cs.map (V.kill1 p))
  | o => o

structure St where
  env : Nat → V
  heap : Nat → AO

def upd {α : Type} (f : Nat → α) (k : Nat) (v : α) : Nat → α := fun i => if i = k then v else f i

/-- A table, all else bare. -/
def tab {α : Type} (z : α) : List (Nat × α) → Nat → α
  | [], _ => z
  | (k, v) :: l, i => if i = k then v else tab z l i

def St.put (st : St) (d : Option Nat) (v : V) : St :=
  match d with
  | some d => { st with env := upd st.env d v }
  | none => st

/-- The objects out of p are no more, and nothing leads to them. -/
def St.killP (st : St) (p : Nat → Bool) : St :=
  { env := fun t => (st.env t).kill p, heap := fun i => if p i then .dead else (st.heap i).kill p }
def inl : List Nat → Nat → Bool
  | [], _ => false
  | k :: l, r => r == k || inl l r
def St.kills (st : St) : List Nat → St
  | [] => st
  | k :: l => st.killP (inl (k :: l))

def St.set (st : St) (r : Nat) (o : AO) : St := { st with heap := upd st.heap r o }

/-- Operands. -/
inductive X where
  | t (n : Nat)
  | k (v : V)
  deriving Inhabited

def X.ev (x : X) (st : St) : V :=
  match x with
  | .t n => st.env n
  | .k v => v

/-- How an argument is handed over. -/
inductive Pm where
  /-- by value: what it leads to is read alone -/
  | ro (x : X)
  /-- a pointer to a variable of n cells, that the callee may change -/
  | io (x : X) (n : Nat)
  /-- a slice that the callee takes -/
  | mv (x : X) (s : Nat)
  deriving Inhabited

def Pm.x : Pm → X
  | .ro x => x
  | .io x _ => x
  | .mv x _ => x

/-- Operations. 'mode' of what makes a slice: none: by value; some r: as the object r. -/
inductive O where
  | mv (x : X)
  | pick (c a b : X)
  | box (x : X) (r : Nat)
  | alloc (z : List V) (r : Nat) (objs : List Nat)
  | nil (s r : Nat)
  | build (z : List V) (parts : List (Nat × Nat × X))
  | bsl (s : Nat) (parts : List X) (mode : Option Nat)
  | load (agg : Bool) (n : Nat) (x : X)
  | store (n : Nat) (x v : X)
  | faddr (off : Nat) (x : X)
  | iaddr (s : Nat) (len : Option Nat) (x i : X)
  | field (agg : Bool) (off n : Nat) (x : X)
  | index (agg : Bool) (s len : Nat) (x i : X)
  | sidx (x i : X)
  | ext (k : Nat) (x : X)
  | bin (op : BinOp) (x y : X)
  | eqs (neg : Bool) (x y : X)
  | eqb (neg : Bool) (x y : X)
  /-- structs and arrays; ks: the kinds of their cells: 0 a number, 1 a bool, 2 a string -/
  | eqa (neg : Bool) (ks : List Nat) (x y : X)
  | not (x : X)
  | neg (x : X)
  | len (x : X)
  | slen (x : X)
  | app (s bytes : Nat) (x y : X) (mode : Option Nat)
  | slice (s : Nat) (x : X) (lo hi : Option X)
  | sslice (x : X) (lo hi : Option X)
  | mks (s bytes : Nat) (z : List V) (n : X) (mode : Option Nat)
  | mkf (f : FuncId) (first caps : List X)
  | max (x y : X)
  | min (x y : X)
  | call (f : FuncId) (args : List Pm) (objs : List Nat)
  | calln (x : X) (args : List Pm) (objs : List Nat)
  | nilchk (x : X)
  /-- a struct out of a local variable: a load that may be done ahead of an append -/
  | loadb (n : Nat) (x : X)
  deriving Inhabited

structure Op' where
  dst : Option Nat
  op : O
  guard : Option (Nat × Bool)
  deriving Inhabited

/-- Code. 'keep' of a loop: the slots and objects that are carried from round to round. -/
inductive C where
  | skip
  | ret
  | exit (id : Nat)
  | reg (names : List Nat) (ops : List Op')
  /-- in any order that the model may take; with each operation's class: 0 it looks at slots alone; 1 it reads, and makes; 2 a store; 3 anything -/
  | regd (names : List Nat) (ops : List (Op' × Nat))
  | seq (a b : C)
  | cond (x : X) (a b : C)
  | blk (id : Nat) (b : C)
  | loop (keep objs : List Nat) (b : C)
  /-- behind b all else is forgotten; stop: a place to say what is known there -/
  | fgt (stop : Bool) (keep objs : List Nat) (b : C)
  deriving Inhabited

structure Fn where
  ntmps : Nat
  body : C

end Go.Ab
