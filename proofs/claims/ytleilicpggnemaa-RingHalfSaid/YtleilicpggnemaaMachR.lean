/-
  What an abstract value says of a value in memory; what a call of a function does, said with abstract values ('CallsV').
-/
import Derived.Test.YtleilicpggnemaaMachA
import Derived.Laws.AppendOwn
import Derived.Deep.MidRow
namespace Go.Ab
open Go

structure Loc where
  blk : Nat
  base : Nat
  cap : Nat

/-- Where all is: the memory; the cells that don't change any more (F); the blocks that were made since (G); the local objects, and where they lie. -/
structure Ctx where
  w : World
  F : Nat → Nat → Prop
  G : Nat → Prop
  heap : Nat → AO
  loc : Nat → Option Loc

/-- A cell of an element. -/
def at2 (rows : List (List V)) (i j : Nat) : Option V := (rows[i]?).bind fun r => r[j]?

inductive R (C : Ctx) : V → Value → Prop where
  | undef (u : Value) : R C .undef u
  | bool (b : Bool) : R C (.bool b) (.bool b)
  | int (k : IntKind) (n : Int) : R C (.int k n) (.int k n)
  | str (s : ByteArray) : R C (.str s) (.string s)
  | nilp : R C .nilp (.pointer none)
  | nilf : R C .nilf .nilFunc
  | ptr (r off : Nat) (cs : List V) (L : Loc) (h : C.heap r = .box cs) (hl : C.loc r = some L) : R C (.ptr r off) (.pointer (some ⟨L.blk, L.base + off, none⟩))
  | rptr (r i off s : Nat) (rs : List (List V)) (L : Loc) (h : C.heap r = .rows s rs) (hl : C.loc r = some L) (hi : i < rs.length) : R C (.rptr r i off) (.pointer (some ⟨L.blk, i * s + off, none⟩))
  | sref (r i n s : Nat) (rs : List (List V)) (L : Loc) (h : C.heap r = .rows s rs) (hl : C.loc r = some L) (hi : i + n ≤ rs.length) : R C (.sref r i n) (.slice (some ⟨L.blk, i * s, none⟩) n (L.cap - i))
  | srefNil (r s : Nat) (h : C.heap r = .rows s []) (hl : C.loc r = none) : R C (.sref r 0 0) (.slice none 0 0)
  | srefZ (r i s : Nat) (rs : List (List V)) (b off : Nat) (h : C.heap r = .rows s rs) (hi : i ≤ rs.length) : R C (.sref r i 0) (.slice (some ⟨b, off, none⟩) 0 0)
  | nils (s : Nat) : R C (.nils s) (.slice none 0 0)
  | nilsSome (s b off : Nat) : R C (.nils s) (.slice (some ⟨b, off, none⟩) 0 0)
  | slNil (fr : Bool) (s : Nat) : R C (.sl fr s []) (.slice none 0 0)
  | sl (fr : Bool) (s : Nat) (rows : List (List V)) (b base cap : Nat) (g : Nat → Nat → Value) (hc : rows.length ≤ cap) (hm : cap ≤ maxLen)
      (hu : ∀ r ∈ rows, r.length = s) (hfr : fr = true → rows ≠ [] → C.G b)
      (hcell : ∀ i j c, at2 rows i j = some c → C.w.cell? ⟨b, base + i * s + j, none⟩ = some (g i j) ∧ C.F b (base + i * s + j) ∧ (g i j).oneCell' = true)
      (hcl : ∀ i j c, at2 rows i j = some c → V.closed c = true)
      (hr : ∀ i j c, at2 rows i j = some c → R C c (g i j)) : R C (.sl fr s rows) (.slice (some ⟨b, base, none⟩) rows.length cap)
  | cp (cs : List V) (off b base : Nat) (g : Nat → Value)
      (hcell : ∀ (j : Nat) (c : V), cs[j]? = some c → C.w.cell? ⟨b, base + j, none⟩ = some (g j) ∧ C.F b (base + j) ∧ (g j).oneCell' = true)
      (hcl : ∀ (j : Nat) (c : V), cs[j]? = some c → V.closed c = true)
      (hr : ∀ (j : Nat) (c : V), cs[j]? = some c → R C c (g j)) : R C (.cp cs off) (.pointer (some ⟨b, base + off, none⟩))
  | agg (cs : List V) (us : List Value) (hl : cs.length = us.length) (h1 : ∀ u ∈ us, u.oneCell' = true)
      (hr : ∀ (j : Nat) (c : V), cs[j]? = some c → R C c (us.getD j undef)) : R C (.agg cs) (.agg us.toArray)
  | tup (vs : List V) (us : List Value) (hl : vs.length = us.length)
      (hr : ∀ (j : Nat) (c : V), vs[j]? = some c → R C c (us.getD j undef)) : R C (.tup vs) (.tuple us.toArray)
  | fn (f : FuncId) (first caps : List V) (us ws : List Value) (hl : first.length = us.length) (hl' : caps.length = ws.length)
      (hr : ∀ (j : Nat) (c : V), first[j]? = some c → R C c (us.getD j undef)) (hr' : ∀ (j : Nat) (c : V), caps[j]? = some c → R C c (ws.getD j undef)) : R C (.fn f first caps) (.func (.func f) us.toArray ws.toArray)

/-- A slice that nobody else holds. -/
def OwnR (C : Ctx) (s : Nat) (rows : List (List V)) (u : Value) : Prop :=
  (rows = [] ∧ u = .slice none 0 0) ∨ (rows = [] ∧ ∃ b off, u = .slice (some ⟨b, off, none⟩) 0 0) ∨
  ∃ (b cap : Nat) (cur : Array Value) (e : TypeId) (g : Nat → Nat → Value), u = .slice (some ⟨b, 0, none⟩) rows.length cap ∧ 0 < cap ∧ rows.length ≤ cap ∧ cap ≤ maxLen ∧
    C.w.heap[b]? = some (.cells cur e (0, 0)) ∧ cur.size = cap * s ∧ (∀ r ∈ rows, r.length = s) ∧
    (∀ i j c, at2 rows i j = some c → cur[i * s + j]? = some (g i j) ∧ (g i j).oneCell' = true ∧ c.closed = true ∧ R C c (g i j))

/-- A cell, a value, a result at a border. -/
def RB1 (C : Ctx) : V → Value → Prop
  | .own s rows, u => OwnR C s rows u
  | v, u => R C v u
def RB2 (C : Ctx) : V → Value → Prop
  | .agg cs, u => ∃ us : List Value, u = .agg us.toArray ∧ cs.length = us.length ∧ (∀ u ∈ us, u.oneCell' = true) ∧ ∀ (j : Nat) (c : V), cs[j]? = some c → RB1 C c (us.getD j undef)
  | v, u => RB1 C v u
def RB (C : Ctx) : V → Value → Prop
  | .tup vs, u => ∃ us : List Value, u = .tuple us.toArray ∧ vs.length = us.length ∧ ∀ (j : Nat) (c : V), vs[j]? = some c → RB2 C c (us.getD j undef)
  | v, u => RB2 C v u
/-- A pointer to a variable that the callee may change. -/
def IoR (C : Ctx) (cs : List V) (u : Value) : Prop :=
  ∃ (b base : Nat) (cur : Array Value) (e : TypeId) (g : Nat → Value), u = .pointer (some ⟨b, base, none⟩) ∧ C.w.heap[b]? = some (.cells cur e (0, 0)) ∧
    ∀ (j : Nat) (c : V), cs[j]? = some c → cur[base + j]? = some (g j) ∧ (g j).oneCell' = true ∧ RB1 C c (g j)
/-- An argument at a border. -/
def RA (C : Ctx) : V → Value → Prop
  | .io cs, u => IoR C cs u
  | v, u => RB1 C v u

/-- The bare context of a border: no local objects. -/
def bare (w : World) (F : Nat → Nat → Prop) (G : Nat → Prop) : Ctx := ⟨w, F, G, fun _ => .dead, fun _ => none⟩

/-- The block that an own slice has. -/
def owns1 : V → Value → List Nat
  | .own _ _, .slice (some a) _ cap => if cap = 0 then [] else [a.block]
  | _, _ => []
def ownsL : List V → List Value → List Nat
  | c :: cs, u :: us => owns1 c u ++ ownsL cs us
  | _, _ => []
def owns2 : V → Value → List Nat
  | .agg cs, .agg us => ownsL cs us.toList
  | v, u => owns1 v u
def ownsT2 : List V → List Value → List Nat
  | c :: cs, u :: us => owns2 c u ++ ownsT2 cs us
  | _, _ => []
/-- The blocks that a result's own slices have. -/
def ownsR : V → Value → List Nat
  | .tup vs, .tuple us => ownsT2 vs us.toList
  | v, u => owns2 v u

/-- The cells at an address. -/
def cellsAt (w : World) (b base n : Nat) : List Value := (List.range n).map fun j => (w.cell? ⟨b, base + j, none⟩).getD undef

/-- The blocks of the own slices of an argument. -/
def ownsA (w : World) : V → Value → List Nat
  | .io cs, .pointer (some a) => ownsL cs (cellsAt w a.block a.off cs.length)
  | v, u => owns1 v u
/-- The block of a variable that is handed over. -/
def boxA : V → Value → List Nat
  | .io _, .pointer (some a) => [a.block]
  | _, _ => []
/-- The cells of a variable that is handed over. -/
def boxC : V → Value → Nat → Nat → Prop
  | .io cs, .pointer (some a), b, off => b = a.block ∧ a.off ≤ off ∧ off < a.off + cs.length
  | _, _, _, _ => False
def listA (f : V → Value → List Nat) : List V → List Value → List Nat
  | c :: cs, u :: us => f c u ++ listA f cs us
  | _, _ => []
def anyC : List V → List Value → Nat → Nat → Prop
  | c :: cs, u :: us, b, off => boxC c u b off ∨ anyC cs us b off
  | _, _, _, _ => False

/-- What a call may write. -/
def writable (w : World) (args : List V) (vs : List Value) (b off : Nat) : Prop := b ∈ listA (ownsA w) args vs ∨ anyC args vs b off

def sameBut (W : Nat → Prop) : Option Obj → Option Obj → Prop
  | some (.cells c e fr), some (.cells c' e' fr') => e' = e ∧ fr' = fr ∧ c'.size = c.size ∧ ∀ off, ¬ W off → c'[off]? = c[off]?
  | o, o' => o' = o

/-- All that was there is as it was, but for some cells. -/
structure Frame (w w' : World) (W : Nat → Nat → Prop) : Prop where
  os : w'.os = w.os
  output : w'.output = w.output
  tape : w'.tape = w.tape
  size : w.heap.size ≤ w'.heap.size
  same : ∀ b, b < w.heap.size → sameBut (W b) (w.heap[b]?) (w'.heap[b]?)

/-- What a call came to. Fr: the cells that were made, and don't change any more. -/
structure Post (w : World) (F : Nat → Nat → Prop) (G : Nat → Prop) (args : List V) (vs : List Value) (res : V) (outs : List V) (fr : Bool) (v : Value) (Fr : Nat → Nat → Prop) (w' : World) : Prop where
  fresh : ∀ b off, Fr b off → b < w'.heap.size ∧ (w.heap.size ≤ b ∨ b ∈ listA (ownsA w) args vs)
  rres : RB (bare w' (fun b off => (fr = false ∧ F b off) ∨ Fr b off) G) res v
  len : outs.length = args.length
  routs : ∀ (i : Nat) (a : V), outs[i]? = some a → RA (bare w' (fun b off => F b off ∨ Fr b off) G) a (vs.getD i undef)
  boxes : listA boxA outs vs = listA boxA args vs
  ranges : ∀ b off, anyC outs vs b off ↔ anyC args vs b off
  nodup : (ownsR res v ++ (listA (ownsA w') outs vs ++ listA boxA args vs)).Nodup
  own : ∀ b ∈ ownsR res v ++ listA (ownsA w') outs vs, (w.heap.size ≤ b ∨ b ∈ listA (ownsA w) args vs) ∧ ∀ off, ¬ Fr b off
  frame : Frame w w' (writable w args vs)

/-- WHAT A CALL DOES: called with values that read as 'args', function f returns a value that reads as 'res', and leaves in the variables that were handed over what reads as 'outs'; all else is as it was. fr: what the result leads to was not there before. -/
def CallsV (P : Program) (f : FuncId) (args : List V) (res : V) (outs : List V) (fr : Bool) : Prop :=
  ∀ (w : World) (F : Nat → Nat → Prop) (G : Nat → Prop) (vs : List Value),
    args.length = vs.length →
    (∀ (i : Nat) (a : V), args[i]? = some a → RA (bare w F G) a (vs.getD i undef)) →
    (listA (ownsA w) args vs ++ listA boxA args vs).Nodup →
    (∀ b ∈ listA (ownsA w) args vs, G b) → (∀ b ∈ listA boxA args vs, (∀ off, ¬ F b off) ∨ ¬ G b) → (∀ b, w.heap.size ≤ b → G b) →
    (∀ b off, F b off → b < w.heap.size ∧ ¬ writable w args vs b off) →
    Calls P f vs.toArray w fun e w' => ∃ (v : Value) (Fr : Nat → Nat → Prop), e = .returned v ∧ Post w F G args vs res outs fr v Fr w'

end Go.Ab
