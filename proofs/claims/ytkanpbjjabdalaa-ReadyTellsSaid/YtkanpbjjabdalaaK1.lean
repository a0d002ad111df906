/-
  The abstract machine: values by value, local objects by reference; what a function's text comes to, as a proposition ('wp'). No Go and no memory in it.
  What an abstract value says of a value in memory; what a call of a function does, said with abstract values ('CallsV').
  What a function's text comes to, over abstract values: a proposition, by the text's own shape.
  Laws of the relation between abstract values and memory.
  Is an abstract text the text of a function? A check by computation.
  The invariant that ties a state of the abstract machine to a run.
  Each operation of the abstract machine is what the model's operation does: reading.
-/
import Derived.Calls
import Derived.Orders
import Derived.Laws.AppendOwn
import Derived.Deep.MidRow
import Derived.RangeFuncKeeps

set_option linter.all false
namespace Go.Ab
open Go
inductive V where
 |undef
 |bool (b:Bool)
 |int (k:IntKind) (n:Int)
 |str (s:ByteArray)
 |nilp
 |nilf
 |ptr (r off:Nat)
 |rptr (r i off:Nat)
 |sref (r i n:Nat)
 |nils (s:Nat)
 |sl (fr:Bool) (s:Nat) (rows:List (List V))
 |cp (cells:List V) (off:Nat)
 |agg (cs:List V)
 |tup (vs:List V)
 |fn (f:FuncId) (first caps:List V)
 |mp (r:Nat)
 |own (s:Nat) (rows:List (List V))
 |io (cells:List V)
 |ownm (ks vs:List V)
 deriving Inhabited
mutual
def V.has (p:Nat->Bool):V->Bool
 |.ptr r _=>p r
 |.rptr r _ _=>p r
 |.sref r _ _=>p r
 |.mp r=>p r
 |.agg cs=>V.hasL p cs
 |.tup vs=>V.hasL p vs
 |.fn _ a b=>V.hasL p a||V.hasL p b
 |_=>false
def V.hasL (p:Nat->Bool):List V->Bool
 |[]=>false
 |v::l=>V.has p v||V.hasL p l
end
mutual
def V.closed:V->Bool
 |.undef=>false
 |.ptr _ _=>false
 |.rptr _ _ _=>false
 |.sref _ _ _=>false
 |.mp _=>false
 |.own _ _=>false
 |.io _=>false
 |.ownm _ _=>false
 |.agg cs=>V.closedL cs
 |.tup vs=>V.closedL vs
 |.fn _ a b=>V.closedL a&&V.closedL b
 |.cp cs _=>V.closedL cs
 |_=>true
def V.closedL:List V->Bool
 |[]=>true
 |v::l=>V.closed v&&V.closedL l
end
def V.kill1 (p:Nat->Bool) (v:V):V:=if v.has p then .undef else v
def V.kill2 (p:Nat->Bool):V->V
 |.agg cs=>.agg (cs.map (V.kill1 p))
 |v=>v.kill1 p
def V.kill (p:Nat->Bool):V->V
 |.agg cs=>.agg (cs.map (V.kill1 p))
 |.tup vs=>.tup (vs.map (V.kill2 p))
 |v=>v.kill1 p
inductive AO where
 |dead
 |box (cells:List V)
 |rows (s:Nat) (rs:List (List V))
 |mp (ks vs:List V)
 deriving Inhabited
def AO.kill (p:Nat->Bool):AO->AO
 |.box cs=>.box (cs.map (V.kill1 p))
 |o=>o
structure St where
 env:Nat->V
 heap:Nat->AO
def upd {α:Type} (f:Nat->α) (k:Nat) (v:α):Nat->α:=fun i=>if i=k then v else f i
def tab {α:Type} (z:α):List (Nat×α)->Nat->α
 |[],_=>z
 |(k,v)::l,i=>if i=k then v else tab z l i
def St.put (st:St) (d:Option Nat) (v:V):St :=
 match d with
 |some d=>{ st with env:=upd st.env d v }
 |none=>st
def St.killP (st:St) (p:Nat->Bool):St :=
 { env:=fun t=>(st.env t).kill p,heap:=fun i=>if p i then .dead else (st.heap i).kill p }
def inl:List Nat->Nat->Bool
 |[],_=>false
 |k::l,r=>r == k||inl l r
def St.kills (st:St):List Nat->St
 |[]=>st
 |k::l=>st.killP (inl (k::l))
def St.puts (st:St):List Nat->List V->St
 |p::ps,v::vs=>(st.put (some p) v).puts ps vs
 |_,_=>st
def St.moves (st:St):List (Nat×Nat)->St
 |[]=>st
 |(d,s)::l=>(st.put (some d) (st.env s)).moves l
def St.set (st:St) (r:Nat) (o:AO):St:={ st with heap:=upd st.heap r o }
inductive X where
 |t (n:Nat)
 |k (v:V)
 deriving Inhabited
def X.ev (x:X) (st:St):V :=
 match x with
 |.t n=>st.env n
 |.k v=>v
inductive Pm where
 |ro (x:X)
 |io (x:X) (n:Nat)
 |mv (x:X) (s:Nat)
 deriving Inhabited
def Pm.x:Pm->X
 |.ro x=>x
 |.io x _=>x
 |.mv x _=>x
inductive O where
 |mv (x:X)
 |pick (c a b:X)
 |box (x:X) (r:Nat)
 |alloc (z:List V) (r:Nat) (objs:List Nat)
 |nil (s r:Nat)
 |build (z:List V) (parts:List (Nat×Nat×X))
 |bsl (s:Nat) (parts:List X) (mode:Option Nat)
 |load (agg:Bool) (n:Nat) (x:X)
 |store (n:Nat) (x v:X)
 |faddr (off:Nat) (x:X)
 |iaddr (s:Nat) (len:Option Nat) (x i:X)
 |field (agg:Bool) (off n:Nat) (x:X)
 |index (agg:Bool) (s len:Nat) (x i:X)
 |sidx (x i:X)
 |ext (k:Nat) (x:X)
 |bin (op:BinOp) (x y:X)
 |eqs (neg:Bool) (x y:X)
 |eqb (neg:Bool) (x y:X)
 |eqa (neg:Bool) (ks:List Nat) (x y:X)
 |not (x:X)
 |neg (x:X)
 |len (x:X)
 |slen (x:X)
 |app (s bytes:Nat) (x y:X) (mode:Option Nat)
 |slice (s:Nat) (x:X) (lo hi:Option X)
 |sslice (x:X) (lo hi:Option X)
 |mks (s bytes:Nat) (z:List V) (n:X) (mode:Option Nat)
 |mkf (f:FuncId) (first caps:List X)
 |max (x y:X)
 |min (x y:X)
 |call (f:FuncId) (args:List Pm) (objs:List Nat)
 |calln (x:X) (args:List Pm) (objs:List Nat)
 |callp (f:FuncId) (args:List Pm) (cands:List Nat)
 |cut (s:Nat) (x hi:X) (mode:Option Nat)
 |nilchk (x:X)
 |loadb (n:Nat) (x:X)
 |niltest (ng:Bool) (x:X)
 |mkm (r:Nat)
 |mget (kd z:V) (x k:X)
 |mlen (x:X)
 |mset (kd:V) (x k v:X)
 |mput (f:FuncId) (x g k n:X)
 |clr (s:Nat) (z:List V) (x:X)
 deriving Inhabited
structure Op' where
 dst:Option Nat
 op:O
 guard:Option (Nat×Bool)
 deriving Inhabited
inductive C where
 |skip
 |ret
 |exit (id:Nat)
 |reg (names:List Nat) (ops:List Op')
 |regd (names:List Nat) (ops:List (Op'×Nat))
 |seq (a b:C)
 |cond (x:X) (a b:C)
 |blk (id:Nat) (b:C)
 |loop (keep objs:List Nat) (b:C)
 |fgt (stop:Bool) (keep objs:List Nat) (b:C)
 |rng (x:X) (ps:List Nat) (mvs:List (Nat×Nat)) (keep objs:List Nat) (b:C)
 deriving Inhabited
structure Fn where
 ntmps:Nat
 body:C
end Go.Ab

namespace Go.Ab
open Go
structure Loc where
 blk:Nat
 base:Nat
 cap:Nat
structure Ctx where
 w:World
 F:Nat->Nat->Prop
 G:Nat->Prop
 heap:Nat->AO
 loc:Nat->Option Loc
 own:Nat->Option (Nat×Nat)
def at2 (rows:List (List V)) (i j:Nat):Option V:=(rows[i]?).bind fun r=>r[j]?
inductive R (C:Ctx):V->Value->Prop where
 |undef (u:Value):R C .undef u
 |bool (b:Bool):R C (.bool b) (.bool b)
 |int (k:IntKind) (n:Int):R C (.int k n) (.int k n)
 |str (s:ByteArray):R C (.str s) (.string s)
 |nilp:R C .nilp (.pointer none)
 |nilf:R C .nilf .nilFunc
 |ptr (r off:Nat) (cs:List V) (L:Loc) (h:C.heap r=.box cs) (hl:C.loc r=some L):R C (.ptr r off) (.pointer (some ⟨L.blk,L.base+off,none⟩))
 |rptr (r i off s:Nat) (rs:List (List V)) (L:Loc) (h:C.heap r=.rows s rs) (hl:C.loc r=some L) (hi:i < rs.length):R C (.rptr r i off) (.pointer (some ⟨L.blk,i * s+off,none⟩))
 |sref (r i n s:Nat) (rs:List (List V)) (L:Loc) (h:C.heap r=.rows s rs) (hl:C.loc r=some L) (hi:i+n<=rs.length):R C (.sref r i n) (.slice (some ⟨L.blk,i * s,none⟩) n (L.cap - i))
 |srefNil (r s:Nat) (h:C.heap r=.rows s []) (hl:C.loc r=none):R C (.sref r 0 0) (.slice none 0 0)
 |srefZ (r i s:Nat) (rs:List (List V)) (b off:Nat) (h:C.heap r=.rows s rs) (hi:i<=rs.length):R C (.sref r i 0) (.slice (some ⟨b,off,none⟩) 0 0)
 |mp (r:Nat) (ks vs:List V) (L:Loc) (h:C.heap r=.mp ks vs) (hl:C.loc r=some L):R C (.mp r) (.map (some L.blk))
 |nils (s:Nat):R C (.nils s) (.slice none 0 0)
 |nilsSome (s b off:Nat):R C (.nils s) (.slice (some ⟨b,off,none⟩) 0 0)
 |slNil (fr:Bool) (s:Nat):R C (.sl fr s []) (.slice none 0 0)
 |slZ (fr:Bool) (s:Nat) (a:Addr):R C (.sl fr s []) (.slice (some a) 0 0)
 |sl (fr:Bool) (s:Nat) (rows:List (List V)) (b base cap:Nat) (g:Nat->Nat->Value) (hc:rows.length<=cap) (hm:cap<=maxLen)
   (hu:∀ r∈rows,r.length=s) (hfr:fr=true->rows≠[]->C.G b)
   (hcell:∀ i j c,at2 rows i j=some c->C.w.cell? ⟨b,base+i * s+j,none⟩=some (g i j)/\C.F b (base+i * s+j)/\(g i j).oneCell'=true)
   (hcl:∀ i j c,at2 rows i j=some c->V.closed c=true)
   (hr:∀ i j c,at2 rows i j=some c->R C c (g i j)):R C (.sl fr s rows) (.slice (some ⟨b,base,none⟩) rows.length cap)
 |cp (cs:List V) (off b base:Nat) (g:Nat->Value)
   (hcell:∀ (j:Nat) (c:V),cs[j]?=some c->C.w.cell? ⟨b,base+j,none⟩=some (g j)/\C.F b (base+j)/\(g j).oneCell'=true)
   (hcl:∀ (j:Nat) (c:V),cs[j]?=some c->V.closed c=true)
   (hr:∀ (j:Nat) (c:V),cs[j]?=some c->R C c (g j)):R C (.cp cs off) (.pointer (some ⟨b,base+off,none⟩))
 |agg (cs:List V) (us:List Value) (hl:cs.length=us.length) (h1:∀ u∈us,u.oneCell'=true)
   (hr:∀ (j:Nat) (c:V),cs[j]?=some c->R C c (us.getD j undef)):R C (.agg cs) (.agg us.toArray)
 |tup (vs:List V) (us:List Value) (hl:vs.length=us.length)
   (hr:∀ (j:Nat) (c:V),vs[j]?=some c->R C c (us.getD j undef)):R C (.tup vs) (.tuple us.toArray)
 |fn (f:FuncId) (first caps:List V) (us ws:List Value) (hl:first.length=us.length) (hl':caps.length=ws.length)
   (hr:∀ (j:Nat) (c:V),first[j]?=some c->R C c (us.getD j undef)) (hr':∀ (j:Nat) (c:V),caps[j]?=some c->R C c (ws.getD j undef)):R C (.fn f first caps) (.func (.func f) us.toArray ws.toArray)
def OwnR (C:Ctx) (s:Nat) (rows:List (List V)) (u:Value):Prop :=
 (rows=[]/\u=.slice none 0 0)\/(rows=[]/\∃ b off,u=.slice (some ⟨b,off,none⟩) 0 0) \/
 ∃
  (b cap:Nat) (cur:Array Value) (e:TypeId) (g:Nat->Nat->Value),u=.slice (some ⟨b,0,none⟩) rows.length cap/\0 < cap/\rows.length<=cap/\cap<=maxLen /\
  C.w.heap[b]?=some (.cells cur e (0,0))/\cur.size=cap * s/\(∀ r∈rows,r.length=s) /\
  (∀ i j c,at2 rows i j=some c->cur[i * s+j]?=some (g i j)/\(g i j).oneCell'=true/\c.closed=true/\R C c (g i j))
def V.keyOk:V->Bool
 |.bool _=>true
 |.int _ _=>true
 |.str _=>true
 |_=>false
def MapR (C:Ctx) (ks vs:List V) (u:Value):Prop :=
 ∃
  (b clock:Nat) (ents:Array MapEntry),u=.map (some b)/\C.w.heap[b]?=some (.map ents clock)/\ks.length=ents.size/\vs.length=ents.size /\
  (∀ (j:Nat) k,ks[j]?=some k->k.keyOk=true/\∃ e,ents[j]?=some e/\R C k e.key)/\∀ (j:Nat) v,vs[j]?=some v->v.closed=true/\∃ e,ents[j]?=some e/\R C v e.val
def RB1 (C:Ctx):V->Value->Prop
 |.own s rows,u=>OwnR C s rows u
 |.ownm ks vs,u=>MapR C ks vs u
 |v,u=>R C v u
def RB2 (C:Ctx):V->Value->Prop
 |.agg cs,u=>∃ us:List Value,u=.agg us.toArray/\cs.length=us.length/\(∀ u∈us,u.oneCell'=true)/\∀ (j:Nat) (c:V),cs[j]?=some c->RB1 C c (us.getD j undef)
 |v,u=>RB1 C v u
def RB (C:Ctx):V->Value->Prop
 |.tup vs,u=>∃ us:List Value,u=.tuple us.toArray/\vs.length=us.length/\∀ (j:Nat) (c:V),vs[j]?=some c->RB2 C c (us.getD j undef)
 |v,u=>RB2 C v u
def IoR (C:Ctx) (cs:List V) (u:Value):Prop :=
 ∃
  (b base:Nat) (cur:Array Value) (e:TypeId) (g:Nat->Value),u=.pointer (some ⟨b,base,none⟩)/\C.w.heap[b]?=some (.cells cur e (0,0)) /\
  ∀ (j:Nat) (c:V),cs[j]?=some c->cur[base+j]?=some (g j)/\(g j).oneCell'=true/\RB1 C c (g j)
def RA (C:Ctx):V->Value->Prop
 |.io cs,u=>IoR C cs u
 |v,u=>RB1 C v u
def bare (w:World) (F:Nat->Nat->Prop) (G:Nat->Prop):Ctx:=⟨w,F,G,fun _=>.dead,fun _=>none,fun _=>none⟩
def owns1:V->Value->List Nat
 |.own _ _,.slice (some a) _ cap=>if cap=0 then [] else [a.block]
 |.ownm _ _,.map (some b)=>[b]
 |_,_=>[]
def ownsL:List V->List Value->List Nat
 |c::cs,u::us=>owns1 c u ++ ownsL cs us
 |_,_=>[]
def owns2:V->Value->List Nat
 |.agg cs,.agg us=>ownsL cs us.toList
 |v,u=>owns1 v u
def ownsT2:List V->List Value->List Nat
 |c::cs,u::us=>owns2 c u ++ ownsT2 cs us
 |_,_=>[]
def ownsR:V->Value->List Nat
 |.tup vs,.tuple us=>ownsT2 vs us.toList
 |v,u=>owns2 v u
def cellsAt (w:World) (b base n:Nat):List Value:=(List.range n).map fun j=>(w.cell? ⟨b,base+j,none⟩).getD undef
def ownsA (w:World):V->Value->List Nat
 |.io cs,.pointer (some a)=>ownsL cs (cellsAt w a.block a.off cs.length)
 |v,u=>owns1 v u
def boxA:V->Value->List Nat
 |.io _,.pointer (some a)=>[a.block]
 |_,_=>[]
def boxC:V->Value->Nat->Nat->Prop
 |.io cs,.pointer (some a),b,off=>b=a.block/\a.off<=off/\off < a.off+cs.length
 |_,_,_,_=>False
def listA (f:V->Value->List Nat):List V->List Value->List Nat
 |c::cs,u::us=>f c u ++ listA f cs us
 |_,_=>[]
def anyC:List V->List Value->Nat->Nat->Prop
 |c::cs,u::us,b,off=>boxC c u b off\/anyC cs us b off
 |_,_,_,_=>False
def writable (w:World) (args:List V) (vs:List Value) (b off:Nat):Prop:=b∈listA (ownsA w) args vs\/anyC args vs b off
def sameBut (W:Nat->Prop):Option Obj->Option Obj->Prop
 |some (.cells c e fr),some (.cells c' e' fr')=>e'=e/\fr'=fr/\c'.size=c.size/\∀ off,¬ W off->c'[off]?=c[off]?
 |o,o'=>o'=o
structure Frame (w w':World) (W:Nat->Nat->Prop):Prop where
 os:w'.os=w.os
 output:w'.output=w.output
 tape:w'.tape=w.tape
 size:w.heap.size<=w'.heap.size
 same:∀ b,b < w.heap.size->sameBut (W b) (w.heap[b]?) (w'.heap[b]?)
structure Post (w:World) (F:Nat->Nat->Prop) (G:Nat->Prop) (args:List V) (vs:List Value) (res:V) (outs:List V) (fr:Bool) (v:Value) (Fr:Nat->Nat->Prop) (w':World):Prop where
 fresh:∀ b off,Fr b off->b < w'.heap.size/\(w.heap.size<=b\/b∈listA (ownsA w) args vs)
 rres:RB (bare w' (fun b off=>(fr=false/\F b off)\/Fr b off) G) res v
 len:outs.length=args.length
 routs:∀ (i:Nat) (a:V),outs[i]?=some a->RA (bare w' (fun b off=>F b off\/Fr b off) G) a (vs.getD i undef)
 boxes:listA boxA outs vs=listA boxA args vs
 ranges:∀ b off,anyC outs vs b off↔anyC args vs b off
 nodup:(ownsR res v ++ (listA (ownsA w') outs vs ++ listA boxA args vs)).Nodup
 own:∀ b∈ownsR res v ++ listA (ownsA w') outs vs,(w.heap.size<=b\/b∈listA (ownsA w) args vs)/\∀ off,¬ Fr b off
 frame:Frame w w' (writable w args vs)
def CallsV (P:Program) (f:FuncId) (args:List V) (res:V) (outs:List V) (fr:Bool):Prop :=
 ∀
  (w:World) (F:Nat->Nat->Prop) (G:Nat->Prop) (vs:List Value),
  args.length=vs.length ->
  (∀ (i:Nat) (a:V),args[i]?=some a->RA (bare w F G) a (vs.getD i undef)) ->
  (listA (ownsA w) args vs ++ listA boxA args vs).Nodup ->
  (∀ b∈listA (ownsA w) args vs,G b)->(∀ b∈listA boxA args vs,(∀ off,¬ F b off)\/¬ G b)->(∀ b,w.heap.size<=b->G b) ->
  (∀ b off,F b off->b < w.heap.size/\¬ writable w args vs b off) ->
  Calls P f vs.toArray w fun e w'=>∃ (v:Value) (Fr:Nat->Nat->Prop),e=.returned v/\Post w F G args vs res outs fr v Fr w'
def YieldsV (P:Program) (f:FuncId) (caps:List V) (xs:List (List V)):Prop :=
 ∀
  (w:World) (F:Nat->Nat->Prop) (G:Nat->Prop) (lb:List Value),caps.length=lb.length->(∀ (i:Nat) (c:V),caps[i]?=some c->R (bare w F G) c (lb.getD i undef)) ->
  ∃
   encs:Fin xs.length->List Value,(∀ i,(encs i).length=(xs.get i).length/\∀ (w':World) (G':Nat->Prop),(∀ b off x,F b off->w.cell? ⟨b,off,none⟩=some x->w'.cell? ⟨b,off,none⟩=some x) ->
    ∀ (j:Nat) (c:V),(xs.get i)[j]?=some c->R (bare w' F G') c ((encs i).getD j undef)) /\
   ∀
    (n:Nat),SeqStopsK Fence.wide n P f lb.toArray (fun i=>(encs i).toArray) (fun A B=>∀ b off x,F b off->A.cell? ⟨b,off,none⟩=some x->B.cell? ⟨b,off,none⟩=some x)
    (fun ys=>ys.map xs.get=xs) (fun _=>True) xs.length w
end Go.Ab

namespace Go.Ab
open Go
def V.cells:V->List V
 |.agg cs=>cs
 |v=>[v]
def V.val:V->Bool
 |.undef=>false
 |.tup _=>false
 |.own _ _=>false
 |.io _=>false
 |.ownm _ _=>false
 |_=>true
def setR (cs:List V) (off:Nat):List V->List V
 |[v]=>cs.set off v
 |vs=>cs.take off ++ vs ++ cs.drop (off+vs.length)
def pickc (agg:Bool) (n off:Nat) (cs:List V):V:=if agg then .agg ((cs.drop off).take n) else cs.getD off .undef
mutual
def V.sh:V->V
 |.sl _ s rows=>.sl false s (V.shR rows)
 |.own s rows=>.own s (V.shR rows)
 |.io cs=>.io (V.shL cs)
 |.ownm ks vs=>.ownm ks (V.shL vs)
 |.cp cs off=>.cp (V.shL cs) off
 |.agg cs=>.agg (V.shL cs)
 |.tup vs=>.tup (V.shL vs)
 |.fn f a b=>.fn f (V.shL a) (V.shL b)
 |v=>v
def V.shL:List V->List V
 |[]=>[]
 |v::l=>V.sh v::V.shL l
def V.shR:List (List V)->List (List V)
 |[]=>[]
 |r::l=>V.shL r::V.shR l
end
def frz (st:St):Nat->V->V
 |_+1,.sref r i m=>match st.heap r with|.rows s rs=>.sl false s ((rs.drop i).take m)|_=>.undef
 |_+1,.rptr r i off=>match st.heap r with|.rows _ rs=>.cp (rs.getD i []) off|_=>.undef
 |n+1,.ptr r off=>match st.heap r with|.box cs=>.cp (cs.map (frz st n)) off|_=>.undef
 |_+1,.nils s=>.sl false s []
 |n+1,.agg cs=>.agg (cs.map (frz st n))
 |n+1,.tup cs=>.tup (cs.map (frz st n))
 |n+1,.fn f a b=>.fn f (a.map (frz st n)) (b.map (frz st n))
 |_,v=>v
def V.unown:V->V
 |.own s rows=>.sl true s rows
 |v=>v
def giveC (st:St):V->V
 |.sref r 0 n=>match st.heap r with|.rows s rs=>if n=rs.length then .own s rs else .undef|_=>.undef
 |.nils s=>.own s []
 |.mp r=>match st.heap r with|.mp ks vs=>.ownm ks (vs.map V.unown)|_=>.undef
 |v=>v
def objC:V->List Nat
 |.sref r _ _=>[r]
 |.mp r=>[r]
 |_=>[]
def V.okGiven:V->Bool
 |.own _ _=>true
 |v=>v.closed&&(match v with|.tup _=>false|.agg _=>false|_=>true)
def Pm.val (sr st:St):Pm->V
 |.ro x=>(frz sr 4 (x.ev sr)).sh
 |.io x n=>match x.ev st with
  |.ptr r off=>match st.heap r with|.box cs=>if off+n<=cs.length then .io (((cs.drop off).take n).map fun c=>(giveC st c).sh) else .undef|_=>.undef
  |_=>.undef
 |.mv x _=>(giveC st (x.ev st)).sh
def Pm.ok (sr st:St) (p:Pm):Bool :=
 match p.val sr st,p with
 |v,.ro _=>v.closed
 |.io cs,.io _ _=>cs.all V.okGiven
 |.own _ _,.mv _ _=>true
 |_,_=>false
def Pm.plain (sr:St):Pm->Bool
 |.ro x=>(x.ev sr).closed
 |_=>true
def Pm.gone (st:St):Pm->List Nat
 |.ro _=>[]
 |.io x n=>match x.ev st with
  |.ptr r off=>match st.heap r with|.box cs=>(((cs.drop off).take n).flatMap objC)|_=>[]
  |_=>[]
 |.mv x _=>objC (x.ev st)
def Pm.box (st:St):Pm->List Nat
 |.io x _=>match x.ev st with|.ptr r _=>[r]|_=>[]
 |_=>[]
def thawC (v:V) (ns:List Nat):V×List Nat×List (Nat×AO) :=
 match v with
 |.own s rows=>match ns with
  |r::ns=>(.sref r 0 rows.length,ns,[(r,.rows s rows)])
  |[]=>(.sl true s rows,[],[])
 |.ownm ks vs=>match ns with
  |r::ns=>(.mp r,ns,[(r,.mp ks vs)])
  |[]=>(.undef,[],[])
 |v=>(v,ns,[])
def thawL:List V->List Nat->List V×List Nat×List (Nat×AO)
 |[],ns=>([],ns,[])
 |v::l,ns =>
  let a:=thawC v ns
  let b:=thawL l a.2.1
  (a.1::b.1,b.2.1,a.2.2 ++ b.2.2)
def thaw2 (v:V) (ns:List Nat):V×List Nat×List (Nat×AO) :=
 match v with
 |.agg cs=>let a:=thawL cs ns; (.agg a.1,a.2.1,a.2.2)
 |v=>thawC v ns
def thawT:List V->List Nat->List V×List Nat×List (Nat×AO)
 |[],ns=>([],ns,[])
 |v::l,ns =>
  let a:=thaw2 v ns
  let b:=thawT l a.2.1
  (a.1::b.1,b.2.1,a.2.2 ++ b.2.2)
def thaw (v:V) (ns:List Nat):V×List Nat×List (Nat×AO) :=
 match v with
 |.tup vs=>let a:=thawT vs ns; (.tup a.1,a.2.1,a.2.2)
 |v=>thaw2 v ns
def St.sets (st:St):List (Nat×AO)->St
 |[]=>st
 |(r,o)::l=>(st.set r o).sets l
def AO.isDead:AO->Bool
 |.dead=>true
 |_=>false
def backC (old new:V):V×List (Nat×AO) :=
 match new,old with
 |.own s rows,.sref r _ _=>(.sref r 0 rows.length,[(r,.rows s rows)])
 |v,_=>(v,[])
def backL:List V->List V->List V×List (Nat×AO)
 |o::os,n::ns=>let a:=backC o n; let b:=backL os ns; (a.1::b.1,a.2 ++ b.2)
 |_,_=>([],[])
def St.blank (st:St) (r off n:Nat):St :=
 match st.heap r with
 |.box cs=>st.set r (.box (setR cs off (List.replicate n .undef)))
 |_=>st
def blanks (st:St):List Pm->St->St
 |.io x n::ps,s=>match x.ev st with
  |.ptr r off=>blanks st ps (s.blank r off n)
  |_=>blanks st ps s
 |_::ps,s=>blanks st ps s
 |[],s=>s
def oldC (st:St) (r off n:Nat):List V :=
 match st.heap r with
 |.box cs=>(cs.drop off).take n
 |_=>[]
def backs (st:St):List Pm->List V->St->St
 |.io x n::ps,o::os,s=>match x.ev st,o with
  |.ptr r off,.io cs'=>match s.heap r with
   |.box cs1=>backs st ps os ((s.sets (backL (oldC st r off n) cs').2).set r (.box (setR cs1 off (backL (oldC st r off n) cs').1)))
   |_=>backs st ps os s
  |_,_=>backs st ps os s
 |_::ps,_::os,s=>backs st ps os s
 |_,_,s=>s
def V.noOwn:V->Bool
 |.own _ _=>false
 |.ownm _ _=>false
 |_=>true
def outsOk (st:St):List Pm->List V->Bool
 |.io x n::ps,o::os=>(match x.ev st,o with
   |.ptr r off,.io cs'=>cs'.length == n&&(backL (oldC st r off n) cs').1.all V.noOwn
   |_,_=>false)&&outsOk st ps os
 |_::ps,_::os=>outsOk st ps os
 |_,_=>true
def Pm.isIo:Pm->Bool
 |.io _ _=>true
 |_=>false
def nodupB:List Nat->Bool
 |[]=>true
 |x::l=>!inl l x&&nodupB l
def call (P:Program) (f:FuncId) (args:List Pm) (objs:List Nat) (d:Option Nat) (st:St) (K:St->Prop):Prop :=
 nodupB (args.flatMap (·.gone st) ++ args.flatMap (·.box st))=true/\nodupB objs=true/\objs.all (fun r=>(st.heap r).isDead)=true /\
 args.all (·.ok (st.kills (args.flatMap (·.gone st) ++ args.flatMap (·.box st))) st)=true /\
 ∃
  (res:V) (outs:List V) (fr:Bool),CallsV P f (args.map (·.val (st.kills (args.flatMap (·.gone st) ++ args.flatMap (·.box st))) st)) res outs fr /\
  (args.all (·.plain (st.kills (args.flatMap (·.gone st) ++ args.flatMap (·.box st))))=true\/(fr=true/\args.any Pm.isIo=false)) /\
  outsOk st args outs=true /\
  K (((backs st args outs (blanks st args (st.kills (args.flatMap (·.gone st))))).sets (thaw res objs).2.2).put d (thaw res objs).1)
def callable (P:Program) (f:FuncId):Bool :=
 match P.funcs[f]? with
 |some fn => fn.body.isSome && fn.name != "runtime.NumGoroutine"
 |none=>false
def binI (op:BinOp) (k:IntKind) (a b:Int) (K:V->Prop):Prop :=
 match op with
 |.add=>K (.int k (k.wrap (a+b)))
 |.sub=>K (.int k (k.wrap (a - b)))
 |.mul=>K (.int k (k.wrap (a * b)))
 |.quo=>b≠0/\K (.int k (k.wrap (a.tdiv b)))
 |.rem=>b≠0/\K (.int k (a.tmod b))
 |.eql=>K (.bool (a == b))
 |.neq=>K (.bool (a != b))
 |.lss=>K (.bool (a < b))
 |.leq=>K (.bool (a<=b))
 |.gtr=>K (.bool (a > b))
 |.geq=>K (.bool (a >= b))
 |_=>False
def eqC:Nat->V->V->Option Bool
 |0,.int k a,.int k' b=>if k=k' then some (a == b) else none
 |1,.bool a,.bool b=>some (a == b)
 |2,.str a,.str b=>some (a.toList == b.toList)
 |_,_,_=>none
def eqK:List Nat->List V->List V->Option Bool
 |[],[],[]=>some true
 |k::ks,a::l,b::m=>match eqC k a b,eqK ks l m with|some x,some y=>some (x&&y)|_,_=>none
 |_,_,_=>none
def srcRows (st:St) (s:Nat):V->Option (List (List V))
 |.sl _ s' ys=>if s'=s then some ys else none
 |.nils _=>some []
 |.sref r j m=>match st.heap r with|.rows s' rs=>if s'=s then some ((rs.drop j).take m) else none|_=>none
 |_=>none
def newSl (s:Nat) (rows:List (List V)) (mode:Option Nat) (d:Option Nat) (st:St) (K:St->Prop):Prop :=
 match mode with
 |none=>K (st.put d (.sl true s rows))
 |some r=>(st.heap r).isDead=true/\K ((st.set r (.rows s rows)).put d (.sref r 0 rows.length))
def PutC (P:Program) (f:FuncId):Prop :=
 callable P f=true /\
 ∀
  (w:World) (b clock:Nat) (ents:Array MapEntry) (g k n:Int),w.heap[b]?=some (.map ents clock)->(∀ e∈ents.toList,∃ m,e.key=.int .i64 m) ->
  ((
   ∀ e∈ents.toList,e.key≠.int .i64 g) ->
   Calls P f #[.map (some b),.int .i64 g,.int .i64 k,.int .i64 n] w fun e w'=>(∃ v,e=.returned v)/\∃ (c cap:Nat) (cur:Array Value) (t:TypeId),
    w.heap.size<=c/\c≠b/\1<=cap/\cap<=maxLen/\w'.heap[c]?=some (.cells cur t (0,0))/\cur.size=cap * 2/\cur[0]?=some (.int .i64 k)/\cur[1]?=some (.int .i64 n) /\
    w'.heap[b]?=some (.map (ents.push { key:=.int .i64 g,val:=.slice (some ⟨c,0,none⟩) 1 cap,born:=clock }) (clock+1)) /\
    w'.os=w.os/\w'.output=w.output/\w'.tape=w.tape/\w.heap.size<=w'.heap.size/\∀ i,i < w.heap.size->i≠b->w'.heap[i]?=w.heap[i]?) /\
  (∀ (i c m cap:Nat) (e:MapEntry) (cur:Array Value) (t:TypeId),ents[i]?=some e->e.key=.int .i64 g->(∀ j e',j < i->ents[j]?=some e'->e'.key≠.int .i64 g)->e.val=.slice (some ⟨c,0,none⟩) m cap->c≠b->0 < m->m<=cap->cap<=maxLen ->
   (m+1) * 16<=140737488355328->w.heap[c]?=some (.cells cur t (0,0))->cur.size=cap * 2->(∀ j,j < m * 2->(cur.getD j undef).oneCell'=true) ->
   Calls P f #[.map (some b),.int .i64 g,.int .i64 k,.int .i64 n] w fun e' w'=>(∃ v,e'=.returned v)/\∃ (c' cap':Nat) (cur':Array Value) (t':TypeId),
    ((c'=c/\cap'=cap/\m < cap/\t'=t)\/(w.heap.size<=c'/\w'.heap[c]?=w.heap[c]?))/\c'≠b/\m+1<=cap'/\cap'<=maxLen/\w'.heap[c']?=some (.cells cur' t' (0,0))/\cur'.size=cap' * 2 /\
    (∀ j,j < m * 2->cur'[j]?=cur[j]?)/\cur'[m * 2]?=some (.int .i64 k)/\cur'[m * 2+1]?=some (.int .i64 n) /\
    w'.heap[b]?=some (.map (ents.modify i fun e=>{ e with key:=.int .i64 g,val:=.slice (some ⟨c',0,none⟩) (m+1) cap' }) clock) /\
    w'.os=w.os/\w'.output=w.output/\w'.tape=w.tape/\w.heap.size<=w'.heap.size/\∀ i,i < w.heap.size->i≠b->i≠c->w'.heap[i]?=w.heap[i]?)
def V.keyIs:V->V->Bool
 |.bool a,.bool b=>a == b
 |.int k a,.int k' b=>k == k'&&a == b
 |.str a,.str b=>a.toList == b.toList
 |_,_=>false
def V.keyLike:V->V->Bool
 |.bool _,.bool _=>true
 |.int k _,.int k' _=>k == k'
 |.str _,.str _=>true
 |_,_=>false
def midx (k:V):List V->Option Nat
 |[]=>none
 |x::ks=>if k.keyIs x then some 0 else (midx k ks).map (·+1)
def mfind (k:V) (ks vs:List V):Option V:=(midx k ks).bind fun j=>vs[j]?
def mput (k v:V) (ks vs:List V):List V×List V :=
 match midx k ks with
 |some j=>(ks.set j k,vs.set j v)
 |none=>(ks ++ [k],vs ++ [v])
def rows2:Option V->Option (List (List V))
 |none=>some []
 |some (.own s rows)=>if s=2 then some rows else none
 |_=>none
def firstDead (st:St):List Nat->Option Nat
 |[]=>none
 |r::l=>match (st.heap r).isDead with
  |true=>some r
  |false=>firstDead st l
def clearR (z:List V) (i n:Nat) (rs:List (List V)):List (List V):=rs.take i ++ List.replicate n z ++ rs.drop (i+n)
def eff (P:Program) (o:O) (d:Option Nat) (st:St) (K:St->Prop):Prop :=
 match o with
 |.mv x=>K (st.put d (x.ev st))
 |.pick c a b=>match c.ev st,a.ev st,b.ev st with
  |.bool t,.bool x,.bool y=>K (st.put d (.bool (bif t then x else y)))
  |.bool t,x,y=>(t=true->K (st.put d x))/\(t=false->K (st.put d y))
  |_,_,_=>False
 |.box x r=>(x.ev st).val=true/\(st.heap r).isDead=true/\K ((st.set r (.box (x.ev st).cells)).put d (.ptr r 0))
 |.alloc z r objs=>nodupB (r::objs)=true/\(r::objs).all (fun r=>(st.heap r).isDead)=true/\K (((st.sets (thawL z objs).2.2).set r (.box (thawL z objs).1)).put d (.ptr r 0))
 |.nil s r=>(st.heap r).isDead=true/\K ((st.set r (.rows s [])).put d (.sref r 0 0))
 |.build z parts=>parts.all (fun p=>(p.2.2.ev st).val&&(p.2.2.ev st).cells.length == p.2.1)=true/\K (st.put d (.agg (parts.foldl (fun cs p=>setR cs p.1 (p.2.2.ev st).cells) z)))
 |.bsl s parts mode=>match parts with
  |[]=>match mode with
   |none=>K (st.put d (.nils s))
   |some r=>(st.heap r).isDead=true/\K ((st.set r (.rows s [])).put d (.sref r 0 0))
  |_=>parts.all (fun p=>(p.ev st).val&&V.closedL (p.ev st).cells&&(p.ev st).cells.length == s)=true/\newSl s (parts.map fun p=>(p.ev st).cells) mode d st K
 |.load agg n x=>match x.ev st with
  |.ptr r off=>match st.heap r with
   |.box cs=>off+n<=cs.length/\K (st.put d (pickc agg n off cs))
   |_=>False
  |.rptr r i off=>match st.heap r with
   |.rows s rs=>off+n<=s/\K (st.put d (pickc agg n off (rs.getD i [])))
   |_=>False
  |.cp cs off=>off+n<=cs.length/\K (st.put d (pickc agg n off cs))
  |_=>False
 |.store n x v=>(v.ev st).val=true/\(v.ev st).cells.length=n/\match x.ev st with
  |.ptr r off=>match st.heap r with
   |.box cs=>off+n<=cs.length/\K ((st.set r (.box (setR cs off (v.ev st).cells))).put d .undef)
   |_=>False
  |.rptr r i off=>match st.heap r with
   |.rows s rs=>V.closedL (v.ev st).cells=true/\off+n<=s/\K ((st.set r (.rows s (rs.set i (setR (rs.getD i []) off (v.ev st).cells)))).put d .undef)
   |_=>False
  |_=>False
 |.faddr off x=>match x.ev st with
  |.ptr r o=>K (st.put d (.ptr r (o+off)))
  |.rptr r i o=>K (st.put d (.rptr r i (o+off)))
  |.cp cs o=>K (st.put d (.cp cs (o+off)))
  |_=>False
 |.iaddr s len x i=>match i.ev st with
  |.int _ n=>match len with
   |none=>match x.ev st with
    |.sl _ s' rows=>s'=s/\0<=n/\n.toNat < rows.length/\K (st.put d (.cp (rows.getD n.toNat []) 0))
    |.sref r j m=>match st.heap r with
     |.rows s' _=>s'=s/\0<=n/\n.toNat < m/\K (st.put d (.rptr r (j+n.toNat) 0))
     |_=>False
    |_=>False
   |some l=>0<=n/\n.toNat < l/\match x.ev st with
    |.ptr r o=>K (st.put d (.ptr r (o+n.toNat * s)))
    |.rptr r j o=>K (st.put d (.rptr r j (o+n.toNat * s)))
    |.cp cs o=>K (st.put d (.cp cs (o+n.toNat * s)))
    |_=>False
  |_=>False
 |.field agg off n x=>match x.ev st with
  |.agg cs=>off+n<=cs.length/\K (st.put d (pickc agg n off cs))
  |_=>False
 |.index agg s len x i=>match x.ev st,i.ev st with
  |.agg cs,.int _ n=>0<=n/\n.toNat < len/\cs.length=len * s/\K (st.put d (pickc agg s (n.toNat * s) cs))
  |_,_=>False
 |.sidx x i=>match x.ev st,i.ev st with
  |.str b,.int _ n=>0<=n/\n.toNat < b.size/\K (st.put d (.int .u8 (b.data.getD n.toNat 0).toNat))
  |_,_=>False
 |.ext k x=>match x.ev st with
  |.tup vs=>k < vs.length/\K (st.put d (vs.getD k .undef))
  |_=>False
 |.bin op x y=>match x.ev st,y.ev st with
  |.int k a,.int k' b=>k=k'/\binI op k a b fun v=>K (st.put d v)
  |_,_=>False
 |.eqs ng x y=>match x.ev st,y.ev st with
  |.str a,.str b=>K (st.put d (.bool (ng ^^ (a.toList == b.toList))))
  |_,_=>False
 |.eqb ng x y=>match x.ev st,y.ev st with
  |.bool a,.bool b=>K (st.put d (.bool (ng ^^ (a == b))))
  |_,_=>False
 |.eqa ng ks x y=>match x.ev st,y.ev st with
  |.agg a,.agg b=>match eqK ks a b with
   |some r=>K (st.put d (.bool (ng ^^ r)))
   |none=>False
  |_,_=>False
 |.not x=>match x.ev st with
  |.bool b=>K (st.put d (.bool !b))
  |_=>False
 |.neg x=>match x.ev st with
  |.int k n=>K (st.put d (.int k (k.wrap (0 - n))))
  |_=>False
 |.len x=>match x.ev st with
  |.sl _ _ rows=>K (st.put d (.int .i64 rows.length))
  |.sref _ _ n=>K (st.put d (.int .i64 n))
  |.nils _=>K (st.put d (.int .i64 0))
  |_=>False
 |.slen x=>match x.ev st with
  |.str b=>K (st.put d (.int .i64 b.size))
  |_=>False
 |.app s bytes x y mode=>match srcRows st s (y.ev st) with
  |none=>False
  |some ys=>match x.ev st with
   |.nils _=>ys.length * bytes<=140737488355328/\newSl s ys mode d st K
   |.sref r i n=>match st.heap r with
    |.rows s' rs=>s'=s/\i=0/\n=rs.length/\(n+ys.length) * bytes<=140737488355328/\match mode with
     |none=>K ((st.kills [r]).put d (.sl true s (rs ++ ys)))
     |some r'=>r'=r/\K (((st.kills [r]).set r (.rows s (rs ++ ys))).put d (.sref r 0 (n+ys.length)))
    |_=>False
   |_=>False
 |.slice s x lo hi=>match x.ev st,(match lo with|none=>V.int .i64 0|some l=>l.ev st) with
  |.sl f s' rows,.int _ l=>match (match hi with|none=>V.int .i64 rows.length|some h=>h.ev st) with
   |.int _ h=>s'=s/\0<=l/\l<=h/\h<=rows.length/\K (st.put d (.sl f s ((rows.take h.toNat).drop l.toNat)))
   |_=>False
  |.sref r i n,.int _ l=>match st.heap r,(match hi with|none=>V.int .i64 n|some h=>h.ev st) with
   |.rows s' _,.int _ h=>s'=s/\0<=l/\l<=h/\h<=n/\K (st.put d (.sref r (i+l.toNat) (h.toNat - l.toNat)))
   |_,_=>False
  |_,_=>False
 |.sslice x lo hi=>match x.ev st,(match lo with|none=>V.int .i64 0|some l=>l.ev st) with
  |.str b,.int _ l=>match (match hi with|none=>V.int .i64 b.size|some h=>h.ev st) with
   |.int _ h=>0<=l/\l<=h/\h<=b.size/\K (st.put d (.str (b.extract l.toNat h.toNat)))
   |_=>False
  |_,_=>False
 |.mks s bytes z n mode=>match n.ev st with
  |.int .i64 n=>0<=n/\n<=140737488355328/\bytes * n<=140737488355328/\newSl s (List.replicate n.toNat z) mode d st K
  |_=>False
 |.mkf f first caps=>K (st.put d (.fn f (first.map (·.ev st)) (caps.map (·.ev st))))
 |.max x y=>match x.ev st,y.ev st with
  |.int k a,.int k' b=>k=k'/\K (st.put d (.int k (if b > a then b else a)))
  |_,_=>False
 |.min x y=>match x.ev st,y.ev st with
  |.int k a,.int k' b=>k=k'/\K (st.put d (.int k (if b < a then b else a)))
  |_,_=>False
 |.call f args objs=>call P f args objs d st K
 |.cut s x hi mode=>match x.ev st,hi.ev st with
  |.sref r i n,.int _ h=>match st.heap r with
   |.rows s' rs=>s'=s/\i=0/\n=rs.length/\0<=h/\h.toNat<=n/\match mode with
    |none=>K ((st.kills [r]).put d (.sl true s (rs.take h.toNat)))
    |some r'=>r'=r/\K (((st.kills [r]).set r (.rows s (rs.take h.toNat))).put d (.sref r 0 h.toNat))
   |_=>False
  |_,_=>False
 |.callp f args cands=>match firstDead st cands with
  |some r=>call P f args [r] d st K
  |none=>False
 |.calln x args objs=>match x.ev st with
  |.fn f first caps=>callable P f=true/\V.closedL first=true/\V.closedL caps=true/\call P f (first.map (fun v=>.ro (.k v)) ++ args ++ caps.map fun v=>.ro (.k v)) objs d st K
  |_=>False
 |.loadb n x=>match x.ev st with
  |.ptr r off=>match st.heap r with
   |.box cs=>off+n<=cs.length/\K (st.put d (pickc true n off cs))
   |_=>False
  |_=>False
 |.niltest ng x=>match x.ev st with
  |.sl _ _ rows=>(rows=[]->K (st.put d (.bool (ng ^^ true)))/\K (st.put d (.bool (ng ^^ false))))/\(rows≠[]->K (st.put d (.bool (ng ^^ false))))
  |.nils _=>K (st.put d (.bool (ng ^^ true)))/\K (st.put d (.bool (ng ^^ false)))
  |.sref _ _ _=>K (st.put d (.bool (ng ^^ true)))/\K (st.put d (.bool (ng ^^ false)))
  |_=>False
 |.mkm r=>(st.heap r).isDead=true/\K ((st.set r (.mp [] [])).put d (.mp r))
 |.mget kd z x k=>match x.ev st with
  |.mp r=>match st.heap r with
   |.mp ks vs=>kd.keyLike (k.ev st)=true/\(∀ y∈ks,kd.keyLike y=true)/\K (st.put d (match mfind (k.ev st) ks vs with|some v=>v.unown|none=>z))
   |_=>False
  |_=>False
 |.mlen x=>match x.ev st with
  |.mp r=>match st.heap r with
   |.mp ks _=>K (st.put d (.int .i64 ks.length))
   |_=>False
  |_=>False
 |.mset kd x k v=>match x.ev st with
  |.mp r=>match st.heap r with
   |.mp ks vs=>kd.keyLike (k.ev st)=true/\(∀ y∈ks,kd.keyLike y=true)/\(v.ev st).closed=true/\(v.ev st).val=true/\K ((st.set r (.mp (mput (k.ev st) (v.ev st) ks vs).1 (mput (k.ev st) (v.ev st) ks vs).2)).put d .undef)
   |_=>False
  |_=>False
 |.mput f x g k n=>match x.ev st,g.ev st,k.ev st,n.ev st with
  |.mp r,.int .i64 g,.int .i64 k,.int .i64 n=>match st.heap r with
   |.mp ks vs=>match rows2 (mfind (.int .i64 g) ks vs) with
    |some rows=>PutC P f/\(∀ y∈ks,(V.int .i64 0).keyLike y=true)/\(rows.length+1) * 16<=140737488355328/\K ((st.set r (.mp (mput (.int .i64 g) (.own 2 (rows ++ [[.int .i64 k,.int .i64 n]])) ks vs).1 (mput (.int .i64 g) (.own 2 (rows ++ [[.int .i64 k,.int .i64 n]])) ks vs).2)).put d .undef)
    |none=>False
   |_=>False
  |_,_,_,_=>False
 |.clr s z x=>match x.ev st with
  |.sref r i n=>match st.heap r with
   |.rows s' rs=>s'=s/\K ((st.set r (.rows s (clearR z i n rs))).put d (.tup []))
   |_=>False
  |_=>False
 |.nilchk x=>match x.ev st with
  |.ptr r o=>K (st.put d (.ptr r o))
  |.rptr r i o=>K (st.put d (.rptr r i o))
  |.cp cs o=>K (st.put d (.cp cs o))
  |.fn f a b=>K (st.put d (.fn f a b))
  |_=>False
def effG (P:Program) (o:Op') (st:St) (K:St->Prop):Prop :=
 match o.guard with
 |none=>eff P o.op o.dst st K
 |some (t,w)=>match st.env t with
  |.bool b=>(b=w->eff P o.op o.dst (st.put (some t) (.bool w)) K)/\(b=!w->K ((st.put (some t) (.bool !w)).put o.dst (.tup [])))
  |.tup []=>K (st.put o.dst (.tup []))
  |_=>False
def wpOps (P:Program):List Op'->St->(St->Prop)->Prop
 |[],st,K=>K st
 |o::l,st,K=>effG P o st fun st'=>wpOps P l st' K
def quiet (o:Op') (st:St):Prop :=
 match o.op with
 |.store _ _ _=>False
 |.niltest _ _=>False
 |.callp _ _ _=>False
 |.cut _ _ _ _=>False
 |.clr _ _ _=>False
 |.mset _ _ _ _=>False
 |.mput _ _ _ _ _=>False
 |.app _ _ x _ _=>∃ s,x.ev st=.nils s
 |.call _ args _=>args.all (fun p=>match p with|.ro _=>true|_=>false)=true
 |.calln _ args _=>args.all (fun p=>match p with|.ro _=>true|_=>false)=true
 |_=>True
def boxedB (o:Op') (st:St):Bool :=
 match o.op with
 |.load agg _ x=>match x.ev st with
  |.ptr r off=>match st.heap r with
   |.box cs=>agg||(match cs.getD off .undef with|.agg _=>false|.tup _=>false|_=>true)
   |_=>false
  |.tup _=>true
  |_=>false
 |.faddr _ x=>match x.ev st with
  |.ptr r _=>match st.heap r with
   |.box _=>true
   |_=>false
  |.tup _=>true
  |_=>false
 |_=>false
def rowedB (o:Op') (st:St):Bool :=
 match o.op with
 |.store _ x _=>match x.ev st with|.rptr _ _ _=>true|.tup _=>true|_=>false
 |_=>false
def slicedB (o:Op') (st:St):Bool :=
 match o.op with
 |.slice _ x _ _=>match x.ev st with|.sl _ _ _=>true|.tup _=>true|_=>false
 |_=>false
structure SideD (o:Op'×Nat) (st:St):Prop where
 one:o.2=1->quiet o.1 st
 four:o.2=4->boxedB o.1 st=true
 five:o.2=5->rowedB o.1 st=true
 six:o.2=6->slicedB o.1 st=true
def wpOpsD (P:Program):List (Op'×Nat)->St->(St->Prop)->Prop
 |[],st,K=>K st
 |o::l,st,K=>SideD o st/\effG P o.1 st fun st'=>wpOpsD P l st' K
inductive Ex where
 |normal
 |exit (id:Nat)
 |ret
def St.keepL (st:St) (keep objs:List Nat):St :=
 { env:=tab .undef (keep.map fun t=>(t,(st.env t).kill fun r=>!inl objs r)),heap:=tab .dead (objs.map fun r=>(r,(st.heap r).kill fun r=>!inl objs r)) }
mutual
def V.nms:V->List Nat
 |.ptr r _=>[r]
 |.rptr r _ _=>[r]
 |.sref r _ _=>[r]
 |.mp r=>[r]
 |.agg cs=>V.nmsL cs
 |.tup vs=>V.nmsL vs
 |.fn _ a b=>V.nmsL a ++ V.nmsL b
 |_=>[]
def V.nmsL:List V->List Nat
 |[]=>[]
 |v::l=>V.nms v ++ V.nmsL l
end
def AO.nms:AO->List Nat
 |.box cs=>V.nmsL cs
 |_=>[]
def insN (x:Nat):List Nat->List Nat
 |[]=>[x]
 |y::l=>bif Nat.blt x y then x::y::l else bif Nat.beq x y then y::l else y::insN x l
def addN:List Nat->List Nat->List Nat
 |[],b=>b
 |x::a,b=>addN a (insN x b)
def St.grow (st:St):Nat->List Nat->List Nat
 |0,l=>l
 |k+1,l=>st.grow k (addN (l.flatMap fun r=>(st.heap r).nms) l)
def St.objsK (st:St) (keep objs:List Nat):List Nat :=
 match objs with
 |0::_=>st.grow 2 (addN (keep.flatMap fun t=>(st.env t).nms) [])
 |l=>l
def St.keep (st:St) (keep objs:List Nat):St:=st.keepL keep (st.objsK keep objs)
def wpC (P:Program):C->St->(Ex->St->Prop)->Prop
 |.skip,st,Q=>Q .normal st
 |.ret,st,Q=>Q .ret st
 |.exit id,st,Q=>Q (.exit id) st
 |.reg names ops,st,Q=>wpOps P ops (st.kills names) fun st=>Q .normal st
 |.regd names ops,st,Q=>wpOpsD P ops (st.kills names) fun st=>Q .normal st
 |.seq a b,st,Q=>wpC P a st fun e st=>match e with
  |.normal=>wpC P b st Q
  |e=>Q e st
 |.cond x a b,st,Q=>match x.ev st with
  |.bool t=>(t=true->wpC P a st Q)/\(t=false->wpC P b st Q)
  |_=>False
 |.blk id b,st,Q=>wpC P b st fun e st=>match e with
  |.exit i=>if i=id then Q .normal st else Q (.exit i) st
  |e=>Q e st
 |.loop keep objs b,st,Q=>∃ I:St->Nat->Prop,(∃ m,I (st.keep keep objs) m) /\
   ∀
    st m,I st m->wpC P b st fun e st=>match e with
    |.normal=>∃ m',m' < m/\I (st.keep keep objs) m'
    |e=>Q e st
 |.fgt _ keep objs b,st,Q=>wpC P b st fun e st=>match e with
  |.normal=>Q .normal (st.keep keep objs)
  |e=>Q e st
 |.rng x ps mvs keep objs b,st,Q=>match x.ev st with
  |.fn f [] caps=>callable P f=true/\V.closedL caps=true/\∃ xs:List (List V),YieldsV P f caps xs/\(∀ vs∈xs,vs.length=ps.length/\V.closedL vs=true) /\
    ∃
     I : List (List V)->St->Prop,I [] (st.keep keep objs) /\
     (∀ (pre:List (List V)) (vs:List V),vs∈xs->(∀ ys∈pre,ys∈xs)->pre.length < xs.length->∀ st,I pre st->wpC P b ((st.puts ps vs).moves mvs) fun e st'=>match e with
      |.normal=>I (pre ++ [vs]) (st'.keep keep objs)
      |_=>False) /\
     ∀ st,I xs st->Q .normal st
  |_=>False
end Go.Ab

namespace Go.Ab
open Go
theorem hasL_false {p:Nat->Bool} {l:List V} (h:V.hasL p l=false):∀ (j:Nat) (c:V),l[j]?=some c->c.has p=false:=by
 induction l with
 |nil=>intro j c hc; simp at hc
 |cons v l ih =>
  simp only [V.hasL,Bool.or_eq_false_iff] at h
  intro j c hc
  cases j with
  |zero=>simp at hc; subst hc; exact h.1
  |succ j=>exact ih h.2 j c (by simpa using hc)
theorem closedL_all {l:List V} (h:V.closedL l=true):∀ (j:Nat) (c:V),l[j]?=some c->c.closed=true:=by
 induction l with
 |nil=>intro j c hc; simp at hc
 |cons v l ih =>
  simp only [V.closedL,Bool.and_eq_true] at h
  intro j c hc
  cases j with
  |zero=>simp at hc; subst hc; exact h.1
  |succ j=>exact ih h.2 j c (by simpa using hc)
mutual
theorem closed_has (p:Nat->Bool):∀ v:V,v.closed=true->v.has p=false
 |.undef,h=>by simp [V.closed] at h
 |.bool _,_=>by simp [V.has]
 |.int _ _,_=>by simp [V.has]
 |.str _,_=>by simp [V.has]
 |.nilp,_=>by simp [V.has]
 |.nilf,_=>by simp [V.has]
 |.ptr _ _,h=>by simp [V.closed] at h
 |.rptr _ _ _,h=>by simp [V.closed] at h
 |.sref _ _ _,h=>by simp [V.closed] at h
 |.nils _,_=>by simp [V.has]
 |.sl _ _ _,_=>by simp [V.has]
 |.cp _ _,_=>by simp [V.has]
 |.agg cs,h=>by simp only [V.closed] at h; simp only [V.has]; exact closedL_hasL p cs h
 |.tup cs,h=>by simp only [V.closed] at h; simp only [V.has]; exact closedL_hasL p cs h
 |.fn _ a b,h=>by
  simp only [V.closed,Bool.and_eq_true] at h
  simp only [V.has,Bool.or_eq_false_iff]
  exact ⟨closedL_hasL p a h.1,closedL_hasL p b h.2⟩
 |.mp _,h=>by simp [V.closed] at h
 |.own _ _,h=>by simp [V.closed] at h
 |.io _,h=>by simp [V.closed] at h
 |.ownm _ _,h=>by simp [V.closed] at h
theorem closedL_hasL (p:Nat->Bool):∀ l:List V,V.closedL l=true->V.hasL p l=false
 |[],_=>rfl
 |v::l,h=>by
  simp only [V.closedL,Bool.and_eq_true] at h
  simp only [V.hasL,Bool.or_eq_false_iff]
  exact ⟨closed_has p v h.1,closedL_hasL p l h.2⟩
end
structure Compat (p:Nat->Bool) (C C':Ctx):Prop where
 F:∀ b off,C.F b off->C'.F b off/\C'.w.cell? ⟨b,off,none⟩=C.w.cell? ⟨b,off,none⟩
 G:∀ b,C.G b->C'.G b
 box:∀ r cs,p r=false->C.heap r=.box cs->(∃ cs',C'.heap r=.box cs')/\C'.loc r=C.loc r
 rows:∀ r s rs,p r=false->C.heap r=.rows s rs->(∃ rs',C'.heap r=.rows s rs'/\rs'.length=rs.length)/\C'.loc r=C.loc r
 mp:∀ r ks vs,p r=false->C.heap r=.mp ks vs->(∃ ks' vs',C'.heap r=.mp ks' vs')/\C'.loc r=C.loc r
theorem R.compat {p:Nat->Bool} {C C':Ctx} (hc:Compat p C C') {v:V} {u:Value} (h:R C v u):v.has p=false->R C' v u:=by
 induction h with
 |undef u=>intro _; exact .undef u
 |bool b=>intro _; exact .bool b
 |int k n=>intro _; exact .int k n
 |str s=>intro _; exact .str s
 |nilp=>intro _; exact .nilp
 |nilf=>intro _; exact .nilf
 |ptr r off cs L h hl =>
  intro hp
  obtain ⟨⟨cs',h'⟩,hl'⟩:=hc.box r cs (by simpa [V.has] using hp) h
  exact .ptr r off cs' L h' (hl'.trans hl)
 |rptr r i off s rs L h hl hi =>
  intro hp
  obtain ⟨⟨rs',h',hlen⟩,hl'⟩:=hc.rows r s rs (by simpa [V.has] using hp) h
  exact .rptr r i off s rs' L h' (hl'.trans hl) (hlen ▸ hi)
 |sref r i n s rs L h hl hi =>
  intro hp
  obtain ⟨⟨rs',h',hlen⟩,hl'⟩:=hc.rows r s rs (by simpa [V.has] using hp) h
  exact .sref r i n s rs' L h' (hl'.trans hl) (hlen ▸ hi)
 |srefNil r s h hl =>
  intro hp
  obtain ⟨⟨rs',h',hlen⟩,hl'⟩:=hc.rows r s [] (by simpa [V.has] using hp) h
  have:rs'=[]:=List.eq_nil_of_length_eq_zero hlen
  subst this
  exact .srefNil r s h' (hl'.trans hl)
 |srefZ r i s rs b off h hi =>
  intro hp
  obtain ⟨⟨rs',h',hlen⟩,hl'⟩:=hc.rows r s rs (by simpa [V.has] using hp) h
  exact .srefZ r i s rs' b off h' (hlen ▸ hi)
 |mp r ks vs L h hl =>
  intro hp
  obtain ⟨⟨ks',vs',h'⟩,hl'⟩:=hc.mp r ks vs (by simpa [V.has] using hp) h
  exact .mp r ks' vs' L h' (hl'.trans hl)
 |nils s=>intro _; exact .nils s
 |nilsSome s b off=>intro _; exact .nilsSome s b off
 |slNil fr s=>intro _; exact .slNil fr s
 |slZ fr s a=>intro _; exact .slZ fr s a
 |sl fr s rows b base cap g hc1 hm hu hfr hcell hcl hr ih =>
  intro _
  refine .sl fr s rows b base cap g hc1 hm hu (fun h1 h2=>hc.G _ (hfr h1 h2)) (fun i j c hij=>?_) hcl (fun i j c hij=>ih i j c hij (closed_has p _ (hcl i j c hij)))
  obtain ⟨h1,h2,h3⟩:=hcell i j c hij
  obtain ⟨h4,h5⟩:=hc.F _ _ h2
  exact ⟨h5.trans h1,h4,h3⟩
 |cp cs off b base g hcell hcl hr ih =>
  intro _
  refine .cp cs off b base g (fun j c hj=>?_) hcl (fun j c hj=>ih j c hj (closed_has p _ (hcl j c hj)))
  obtain ⟨h1,h2,h3⟩:=hcell j c hj
  obtain ⟨h4,h5⟩:=hc.F _ _ h2
  exact ⟨h5.trans h1,h4,h3⟩
 |agg cs us hl h1 hr ih =>
  intro hp
  exact .agg cs us hl h1 fun j c hj=>ih j c hj (hasL_false (by simpa [V.has] using hp) j c hj)
 |tup vs us hl hr ih =>
  intro hp
  exact .tup vs us hl fun j c hj=>ih j c hj (hasL_false (by simpa [V.has] using hp) j c hj)
 |fn f first caps us ws hl hl' hr hr' ih ih' =>
  intro hp
  simp only [V.has,Bool.or_eq_false_iff] at hp
  exact .fn f first caps us ws hl hl' (fun j c hj=>ih j c hj (hasL_false hp.1 j c hj)) (fun j c hj=>ih' j c hj (hasL_false hp.2 j c hj))
mutual
theorem has_none:∀ v:V,v.has (fun _=>false)=false
 |.undef|.bool _|.int _ _|.str _|.nilp|.nilf|.ptr _ _|.rptr _ _ _|.sref _ _ _|.nils _|.sl _ _ _|.cp _ _|.mp _|.own _ _|.io _|.ownm _ _=>by simp [V.has]
 |.agg cs=>by simp only [V.has]; exact hasL_none cs
 |.tup cs=>by simp only [V.has]; exact hasL_none cs
 |.fn _ a b=>by simp [V.has,hasL_none a,hasL_none b]
theorem hasL_none:∀ l:List V,V.hasL (fun _=>false) l=false
 |[]=>rfl
 |v::l=>by simp [V.hasL,has_none v,hasL_none l]
end
theorem R.mono {C C':Ctx} (hc:Compat (fun _=>false) C C') {v:V} {u:Value} (h:R C v u):R C' v u:=h.compat hc (has_none v)
theorem R.of_closed {C C':Ctx} (hF:∀ b off,C.F b off->C'.F b off/\C'.w.cell? ⟨b,off,none⟩=C.w.cell? ⟨b,off,none⟩) (hG:∀ b,C.G b->C'.G b)
  {v:V} {u:Value} (h:R C v u) (hv:v.closed=true):R C' v u :=
 h.compat (p:=fun _=>true) ⟨hF,hG,fun _ _ h=>by simp at h,fun _ _ _ h=>by simp at h,fun _ _ _ h=>by simp at h⟩ (closed_has _ v hv)
theorem R.kill1 {p:Nat->Bool} {C C':Ctx} (hc:Compat p C C') {v:V} {u:Value} (h:R C v u):R C' (v.kill1 p) u:=by
 unfold V.kill1
 split
 ·exact .undef u
 ·rename_i hp; exact h.compat hc (by simpa using hp)
theorem R.kill2 {p:Nat->Bool} {C C':Ctx} (hc:Compat p C C') {v:V} {u:Value} (h:R C v u):R C' (v.kill2 p) u:=by
 cases h with
 |agg cs us hl h1 hr =>
  simp only [V.kill2]
  refine .agg _ us (by simpa using hl) h1 fun j c hj=>?_
  simp only [List.getElem?_map,Option.map_eq_some_iff] at hj
  obtain ⟨c',hj',rfl⟩:=hj
  exact (hr j c' hj').kill1 hc
 |_=>exact R.kill1 hc (by constructor <;> assumption)
theorem R.kill {p:Nat->Bool} {C C':Ctx} (hc:Compat p C C') {v:V} {u:Value} (h:R C v u):R C' (v.kill p) u:=by
 cases h with
 |agg cs us hl h1 hr=>exact R.kill2 hc (.agg cs us hl h1 hr)
 |tup vs us hl hr =>
  simp only [V.kill]
  refine .tup _ us (by simpa using hl) fun j c hj=>?_
  simp only [List.getElem?_map,Option.map_eq_some_iff] at hj
  obtain ⟨c',hj',rfl⟩:=hj
  exact (hr j c' hj').kill2 hc
 |_=>exact R.kill1 hc (by constructor <;> assumption)
end Go.Ab

namespace Go.Ab
open Go
def constOk:V->Value->Bool
 |.bool a,.bool b=>a == b
 |.int k a,.int k' b=>k == k'&&a == b
 |.str a,.string b=>a.data.toList == b.data.toList
 |.nilp,.pointer none=>true
 |.nilf,.nilFunc=>true
 |.nils _,.slice none 0 0=>true
 |.undef,_=>true
 |_,_=>false
def okX:X->Operand->Bool
 |.t n,.tmp m=>n == m
 |.k (.fn f [] []),.func g=>f == g
 |.k v,.const c=>constOk v c
 |_,_=>false
def okXs:List X->List Operand->Bool
 |[],[]=>true
 |x::l,y::m=>okX x y&&okXs l m
 |_,_=>false
def zOk:List V->List Value->Bool
 |[],[]=>true
 |v::l,u::m=>constOk v u&&zOk l m
 |_,_=>false
def zOwn:List V->List Value->Bool
 |[],[]=>true
 |.own _ []::l,.slice none 0 0::m=>zOwn l m
 |v::l,u::m=>constOk v u&&zOwn l m
 |_,_=>false
def szOk (P:Program) (t:TypeId) (n:Nat):Bool:=(P.info? t).any fun i=>i.size == n
def rowOk (P:Program) (t:TypeId) (b:Bool):Bool :=
 match P.underlying t with
 |some (.struct _)=>b
 |some (.array _ _)=>b
 |some _=>!b
 |none=>false
def zeroIs (P:Program) (t:TypeId) (f:Value->Bool):Bool:=(P.info? t).any fun i=>match i.zero with|some z=>f z|none=>false
def leavesF (P:Program) (f:TypeId->Option (List Nat)):List Field->Nat->Option (List Nat)
 |[],_=>some []
 |fd :: fs, off => if fd.offset == off && fd.name != "_" then
   match f fd.type with
   |some ks=>if szOk P fd.type ks.length then (leavesF P f fs (off+ks.length)).map (ks ++ ·) else none
   |none=>none
  else none
def leaves (P:Program):Nat->TypeId->Option (List Nat)
 |0,_=>none
 |d + 1,t=>match P.underlying t with
  |some .bool=>some [1]
  |some (.int _)=>some [0]
  |some .string=>some [2]
  |some (.struct fs)=>if P.stoodInHeld t then none else leavesF P (leaves P d) fs.toList 0
  |some (.array n e)=>match leaves P d e with
   |some ks=>if szOk P e ks.length then some (List.replicate n ks).flatten else none
   |none=>none
  |_=>none
def okParts (fs:Array Field) (P:Program):List (Nat×Nat×X)->List (Nat×Operand)->Bool
 |[],[]=>true
 |(off,n,x)::l,(i,y)::m=>(match fs[i]? with|some f=>f.offset == off&&szOk P f.type n|none=>false)&&okX x y&&okParts fs P l m
 |_,_=>false
def okPartsA (s len:Nat):List (Nat×Nat×X)->List (Nat×Operand)->Bool
 |[],[]=>true
 |(off,n,x)::l,(i,y)::m=>i < len&&off == i * s&&n == s&&okX x y&&okPartsA s len l m
 |_,_=>false
def okDense (k:Nat):List X->List (Nat×Operand)->Bool
 |[],[]=>true
 |x::l,(i,y)::m=>i == k&&okX x y&&okDense (k+1) l m
 |_,_=>false
def okPm:Pm->Operand->Bool
 |.ro x,y=>okX x y
 |.io x _,y=>okX x y
 |.mv x _,y=>okX x y
def okPms:List Pm->List Operand->Bool
 |[],[]=>true
 |x::l,y::m=>okPm x y&&okPms l m
 |_,_=>false
def okO':Option X->Option Operand->Bool
 |none,none=>true
 |some x,some y=>okX x y
 |_,_=>false
def plainOp:BinOp->Bool
 |.shl|.shr|.and|.or|.xor|.andNot=>false
 |_=>true
def sliceElem (P:Program) (t:TypeId) (s:Nat):Bool :=
 match P.underlying t with
 |some (.slice e)=>szOk P e s
 |_=>false
def isNil:Operand->Bool
 |.const (.slice none 0 0)=>true
 |_=>false
def keyTy (P:Program) (t:TypeId) (kd:V):Bool :=
 match P.underlying t,kd with
 |some .bool,.bool _=>true
 |some (.int k),.int k' _=>k == k'
 |some .string,.str _=>true
 |_,_=>false
def okOp (P:Program) (o:O) (op:Op):Bool :=
 match o,op with
 |.mv x,.move y=>okX x y
 |.mv x,.assign y=>okX x y
 |.pick c a b,.pick c' a' b'=>okX c c'&&okX a a'&&okX b b'
 |.box x _,.box _ y=>okX x y
 |.alloc z _ _,.alloc t=>zeroIs P t fun v=>zOwn z v.cells.toList&&v.cells.all (·.oneCell')
 |.nil _ _,.move y=>isNil y
 |.nil _ _,.assign y=>isNil y
 |.build z parts,.build t ps=>zeroIs P t (fun v=>zOk z v.cells.toList&&v.cells.all (·.oneCell'))&&parts.all (fun p=>decide (p.1+p.2.1<=z.length))&&(match P.underlying t with
  |some (.struct fs)=>okParts fs P parts ps.toList&&fs.all (fun f=>(P.info? f.type).isSome)
  |some (.array len e)=>(P.info? e).any fun i=>okPartsA i.size len parts ps.toList
  |_=>false)
 |.bsl s parts _,.buildSlice t len ps=>(match P.underlying t with
  |some (.slice e)=>szOk P e s&&decide (0 < s)&&zeroIs P e (fun z=>z.cells.size == s)
  |_=>false)&&len == parts.length&&decide (len * s<=16777216)&&okDense 0 parts ps.toList
 |.load agg n x,.load t y=>szOk P t n&&rowOk P t agg&&(agg||n == 1)&&okX x y
 |.store n x v,.store t y u=>szOk P t n&&decide (0 < n)&&okX x y&&okX v u
 |.faddr off x,.fieldAddr t y f=>(match P.underlying t with
  |some (.struct fs)=>(match fs[f]? with|some fd=>fd.offset == off&&(P.info? fd.type).any (fun i=>i.size != 0)|none=>false)
  |_=>false)&&okX x y
 |.iaddr s len x i,.indexAddr t y j=>(match P.underlying t,len with
  |some (.slice e),none=>szOk P e s
  |some (.array l e),some l'=>l == l'&&szOk P e s
  |_,_=>false)&&okX x y&&okX i j
 |.field agg off n x,.field t y f=>(match P.underlying t with
  |some (.struct fs)=>(match fs[f]? with|some fd=>fd.offset == off&&szOk P fd.type n&&rowOk P fd.type agg&&(agg||n == 1)|none=>false)
  |_=>false)&&okX x y
 |.index agg s len x i,.index t y j=>(match P.underlying t with
  |some (.array l e)=>l == len&&szOk P e s&&rowOk P e agg&&(agg||s == 1)
  |_=>false)&&okX x y&&okX i j
 |.sidx x i,.index t y j=>(match P.underlying t with|some .string=>true|_=>false)&&okX x y&&okX i j
 |.ext k x,.extract y j=>k == j&&okX x y
 |.bin b x y,.binOp b' _ x' y' _=>b == b'&&plainOp b&&okX x x'&&okX y y'
 |.eqs ng x y,.binOp b _ x' y' _=>(b == .eql&&!ng||b == .neq&&ng)&&okX x x'&&okX y y'
 |.eqb ng x y,.binOp b t x' y' _=>(b == .eql&&!ng||b == .neq&&ng)&&(match P.underlying t with|some .bool=>true|_=>false)&&okX x x'&&okX y y'
 |.eqa ng ks x y,.binOp b t x' y' _=>(b == .eql&&!ng||b == .neq&&ng)&&leaves P 8 t == some ks&&rowOk P t true&&!P.eqGuardType P.depth t&&okX x x'&&okX y y'
 |.not x,.unOp u _ y=>u == .not&&okX x y
 |.neg x,.unOp u _ y=>u == .neg&&okX x y
 |.len x,.call c=>(match c.callee,c.args.toList,c.argTypes.toList with
  |.builtin .len,[y],[t]=>(match P.underlying t with|some (.slice _)=>true|_=>false)&&okX x y
  |_,_,_=>false)
 |.slen x,.call c=>(match c.callee,c.args.toList,c.argTypes.toList with
  |.builtin .len,[y],[t]=>(match P.underlying t with|some .string=>true|_=>false)&&okX x y
  |_,_,_=>false)
 |.app s bytes x y _,.call c=>(match c.callee,c.args.toList,c.argTypes.toList with
  |.builtin .append,[x',y'],[t,t']=>(match P.underlying t with
   |some (.slice e)=>(P.info? e).any (fun i=>i.size == s&&i.bytes == bytes&&decide (0 < bytes)&&decide (0 < s)&&(match i.zero with|some z=>z.cells.size == s|none=>false))
   |_=>false)&&(match P.underlying t' with|some (.slice _)=>true|_=>false)&&okX x x'&&okX y y'
  |_,_,_=>false)
 |.slice s x lo hi,.slice t y l h mx=>sliceElem P t s&&okX x y&&okO' lo l&&okO' hi h&&mx.isNone
 |.cut s x hi _,.slice t y l h mx=>sliceElem P t s&&okX x y&&okO' none l&&okO' (some hi) h&&mx.isNone
 |.sslice x lo hi,.slice t y l h mx=>(match P.underlying t with|some .string=>true|_=>false)&&okX x y&&okO' lo l&&okO' hi h&&mx.isNone
 |.mks s bytes z n _,.makeSlice t l c=>(match P.underlying t with
  |some (.slice e)=>(P.info? e).any (fun i=>i.size == s&&i.bytes == bytes&&decide (0 < s)&&(match i.zero with|some u=>zOk z u.cells.toList&&z.length == s&&V.closedL z&&u.cells.all (·.oneCell')|none=>false))
  |_=>false)&&okX n l&&okX n c
 |.mkf f first caps,.makeFunc (.func g) a b=>f == g&&okXs first a.toList&&okXs caps b.toList
 |.max x y,.call c=>(match c.callee,c.args.toList with|.builtin .max,[x',y']=>okX x x'&&okX y y'|_,_=>false)
 |.min x y,.call c=>(match c.callee,c.args.toList with|.builtin .min,[x',y']=>okX x x'&&okX y y'|_,_=>false)
 |.call f args _,.call c=>(match c.callee with|.value (.func g)=>f == g&&callable P f&&okPms args c.args.toList|_=>false)
 |.callp f args _,.call c=>(match c.callee with|.value (.func g)=>f == g&&callable P f&&okPms args c.args.toList|_=>false)
 |.calln x args _,.call c=>(match c.callee with|.value y=>okX x y&&okPms args c.args.toList|_=>false)
 |.loadb n x,.load t y=>szOk P t n&&rowOk P t true&&(true||n == 1)&&okX x y
 |.nilchk x,.nilCheck y=>okX x y
 |.niltest ng x,.binOp b t x' y' _=>(b == .eql&&!ng||b == .neq&&ng)&&(match P.underlying t with|some (.slice _)=>true|_=>false)&&okX x x'&&isNil y'
 |.mkm _,.makeMap t r=>(match P.underlying t with|some (.map _ _)=>true|_=>false)&&r.isNone
 |.mget kd z x k,.lookup t y j b=>!b&&(match P.underlying t with
  |some (.map kt e)=>keyTy P kt kd&&zeroIs P e (fun v=>constOk z v)
  |_=>false)&&okX x y&&okX k j
 |.mlen x,.call c=>(match c.callee,c.args.toList,c.argTypes.toList with
  |.builtin .len,[y],[t]=>(match P.underlying t with|some (.map _ _)=>true|_=>false)&&okX x y
  |_,_,_=>false)
 |.mset kd x k v,.mapUpdate t y j u=>(match P.underlying t with
  |some (.map kt _)=>keyTy P kt kd
  |_=>false)&&okX x y&&okX k j&&okX v u
 |.mput f x g k n,.call c=>(match c.callee,c.args.toList with|.value (.func h),[y,g',k',n']=>f == h&&okX x y&&okX g g'&&okX k k'&&okX n n'|_,_=>false)
 |.clr s z x,.call c=>(match c.callee,c.args.toList,c.argTypes.toList with
  |.builtin .clear,[y],[t]=>(match P.underlying t with
   |some (.slice e)=>(P.info? e).any (fun i=>i.size == s&&decide (0 < s)&&(match i.zero with|some u=>zOk z u.cells.toList&&z.length == s&&V.closedL z&&u.cells.all (·.oneCell')|none=>false))
   |_=>false)&&okX x y
  |_,_,_=>false)
 |_,_=>false
structure Sz where
 n:Nat
 pins:List Nat
 nomap:Bool
def O.mapFree:O->Bool
 |.mkm _=>false
 |.alloc _ _ objs=>objs.isEmpty
 |.call _ _ objs=>objs.isEmpty
 |.calln _ _ objs=>objs.isEmpty
 |.callp _ _ _=>false
 |_=>true
def okGuard (ops:Array Oper) (ntmps:Sz):Option (Nat×Bool)->Option (Nat×Bool)->Bool
 |none,none=>true
 |some (t,w),some (j,w')=>w == w'&&decide (t < ntmps.n)&&(match ops[j]? with|some o=>o.dst == some t|none=>false)
 |_,_=>false
def okDst (ntmps:Sz):Option Nat->Option Nat->Bool
 |none,none=>true
 |some d,some e=>d == e&&decide (d < ntmps.n)&&!inl ntmps.pins d
 |_,_=>false
def okOper (P:Program) (ops:Array Oper) (ntmps:Sz) (o:Op') (p:Oper):Bool :=
 okDst ntmps o.dst p.dst&&okOp P o.op p.op&&okGuard ops ntmps o.guard p.guard&&(!ntmps.nomap||o.op.mapFree)
def okOpers (P:Program) (ops:Array Oper) (ntmps:Sz):List Op'->List Oper->Bool
 |[],[]=>true
 |o::l,p::m=>okOper P ops ntmps o p&&okOpers P ops ntmps l m
 |_,_=>false
def uniL:List Nat->List Nat->List Nat
 |[],b=>b
 |x::a,b=>uniL a (bif inl b x then b else x::b)
def ancs (l:List Oper):List (List Nat) :=
 l.foldl (fun acc o=>acc ++ [((o.after.toList.filter fun e=>Region.binds .any e).map (·.on)).foldl (fun l e=>uniL (e::acc.getD e []) l) []]) []
def isPure:O->Bool
 |.mv _|.pick _ _ _|.build _ _|.field _ _ _ _|.index _ _ _ _ _|.sidx _ _|.ext _ _|.bin _ _ _|.eqs _ _ _|.eqb _ _ _|.eqa _ _ _ _|.not _|.neg _|.len _|.slen _|.sslice _ _ _
 |.mkf _ _ _|.max _ _|.min _ _|.faddr _ _|.nilchk _|.iaddr _ (some _) _ _=>true
 |_=>false
def isStore:O->Bool
 |.store _ _ _=>true
 |_=>false
def isLoad:O->Bool
 |.load _ _ _|.faddr _ _=>true
 |_=>false
def isSlice:O->Bool
 |.slice _ _ _ _=>true
 |_=>false
def nrm:Nat->Nat
 |4=>1
 |6=>1
 |5=>2
 |c=>c
def okClass (o:O):Nat->Bool
 |0=>isPure o
 |1=>true
 |2=>isStore o
 |4=>isLoad o
 |5=>isStore o
 |6=>isSlice o
 |_=>true
def okPair:Nat->Nat->Bool
 |0,0|0,1|1,0|1,1|0,2|2,0=>true
 |_,_=>false
def X.tmps:X->List Nat
 |.t n=>[n]
 |.k _=>[]
def O.xs:O->List X
 |.mv x=>[x]
 |.pick c a b=>[c,a,b]
 |.box x _=>[x]
 |.alloc _ _ _=>[]
 |.nil _ _=>[]
 |.build _ parts=>parts.map (·.2.2)
 |.bsl _ parts _=>parts
 |.load _ _ x=>[x]
 |.store _ x v=>[x,v]
 |.faddr _ x=>[x]
 |.iaddr _ _ x i=>[x,i]
 |.field _ _ _ x=>[x]
 |.index _ _ _ x i=>[x,i]
 |.sidx x i=>[x,i]
 |.ext _ x=>[x]
 |.bin _ x y=>[x,y]
 |.eqs _ x y=>[x,y]
 |.eqb _ x y=>[x,y]
 |.eqa _ _ x y=>[x,y]
 |.not x=>[x]
 |.neg x=>[x]
 |.len x=>[x]
 |.slen x=>[x]
 |.app _ _ x y _=>[x,y]
 |.slice _ x lo hi=>[x] ++ lo.toList ++ hi.toList
 |.sslice x lo hi=>[x] ++ lo.toList ++ hi.toList
 |.mks _ _ _ n _=>[n]
 |.mkf _ first caps=>first ++ caps
 |.max x y=>[x,y]
 |.min x y=>[x,y]
 |.call _ args _=>args.map Pm.x
 |.calln x args _=>x::args.map Pm.x
 |.callp _ args _=>args.map Pm.x
 |.cut _ x hi _=>[x,hi]
 |.nilchk x=>[x]
 |.loadb _ x=>[x]
 |.niltest _ x=>[x]
 |.mkm _=>[]
 |.mget _ _ x k=>[x,k]
 |.mlen x=>[x]
 |.mset _ x k v=>[x,k,v]
 |.mput _ x g k n=>[x,g,k,n]
 |.clr _ _ x=>[x]
def Op'.looks (o:Op'):List Nat:=o.op.xs.flatMap X.tmps ++ (match o.guard with|some (t,_)=>[t]|none=>[])
def O.names:O->List Nat
 |.box _ r=>[r]
 |.alloc _ r objs=>r::objs
 |.nil _ r=>[r]
 |.bsl _ _ mode=>mode.toList
 |.mks _ _ _ _ mode=>mode.toList
 |.app _ _ _ _ mode=>mode.toList
 |.call _ _ objs=>objs
 |.calln _ _ objs=>objs
 |.callp _ _ cands=>cands
 |.cut _ _ _ mode=>mode.toList
 |.mkm r=>[r]
 |_=>[]
def apartO (x y:Op'):Bool :=
 (match x.dst with|some d=>!inl y.looks d&&y.dst != some d|none=>true)&&(match y.dst with|some d=>!inl x.looks d|none=>true)&&x.op.names.all fun r=>!inl y.op.names r
def X.okK:X->Bool
 |.t _=>true
 |.k .undef=>true
 |.k v=>v.closed
def afterB (ops:Array Oper) (i:Nat):List Nat :=
 match ops[i]? with
 |some o=>(o.after.toList.filter fun e=>Region.binds .any e).map (·.on)
 |none=>[]
def pairO (x y:Op'×Nat):Bool:=okPair (nrm x.2) (nrm y.2)&&apartO x.1 y.1
def swapOk0 (x y:Op'×Nat):Bool :=
 (match x.1.op with|.app _ _ _ _ none=>true|_=>false)&&x.2 == 3&&(match y.1.op with|.loadb _ _=>true|_=>false)&&y.2 == 1&&apartO x.1 y.1
def leadOk (o:O):Bool :=
 (match o with|.mv _|.faddr _ _|.nilchk _|.iaddr _ (some _) _ _=>true|_=>false)&&o.xs.all X.okK
def formOk:O->Bool
 |.app _ _ _ _ _|.call _ _ _|.callp _ _ _=>true
 |_=>false
def mvOk (o:O):Bool:=(match o with|.mv _=>true|_=>false)&&o.xs.all X.okK
def hopOk (x y:Op'×Nat):Bool :=
 swapOk0 x y||(apartO x.1 y.1&&((okPair (nrm x.2) (nrm y.2)&&(x.2 == 0||y.2 == 0))||(x.2 == 3&&formOk x.1.op&&y.2 == 0&&leadOk y.1.op)||(x.2 == 0&&mvOk x.1.op&&y.2 == 3&&formOk y.1.op)||(x.2 == 4&&y.2 == 5)||(x.2 == 5&&y.2 == 4)||(x.2 == 6&&nrm y.2 == 2)||(nrm x.2 == 2&&y.2 == 6)||(x.2 == 4&&y.2 == 3&&(match y.1.op with|.app _ _ _ _ _=>true|_=>false))))
def at2O (f:Op'×Nat->Op'×Nat->Bool) (l:List (Op'×Nat)) (x i:Nat):Bool :=
 match l[x]?,l[i]? with
 |some lx,some li=>f lx li
 |_,_=>false
def okD (ops:Array Oper) (l:List (Op'×Nat)):Bool :=
 let an:=ancs ops.toList
 l.all (fun o=>okClass o.1.op o.2&&o.1.op.xs.all X.okK)&&l.length == ops.size &&
 (List.range ops.size).all fun i=>(afterB ops i).all (fun e=>decide (e < i))&&(an.getD i []).all (fun x=>(afterB ops i).any fun e=>e == x||inl (an.getD e []) x) &&
  (((List.range ops.size).filter fun x=>decide (x < i)&&!inl (an.getD i []) x).dropWhile (at2O pairO l · i)).all (at2O hopOk l · i)
def C.flat:C->Bool
 |.skip=>true
 |.exit _=>true
 |.reg _ _=>true
 |.seq a b=>a.flat&&b.flat
 |.cond _ a b=>a.flat&&b.flat
 |.blk _ b=>b.flat
 |.fgt _ _ _ b=>b.flat
 |_=>false
def okMvs (n:Sz):List (Nat×Nat)->List Oper->Bool
 |[],[]=>true
 |(d,s)::l,o::m=>(match o.op with|.assign (.tmp t)=>t == s|.move (.tmp t)=>t == s|_=>false)&&o.dst == some d&&decide (d < n.n)&&!inl n.pins d&&o.guard.isNone&&okMvs n l m
 |_,_=>false
def okC (P:Program) (ntmps:Sz):C->Code->Bool
 |.skip,.skip=>true
 |.ret,.ret=>true
 |.exit i,.exit j=>i == j
 |.reg _ ops,.region _ ops' draw=>okOpers P ops' ntmps ops ops'.toList&&!draw
 |.regd _ ops,.region _ ops' _=>okOpers P ops' ntmps (ops.map (·.1)) ops'.toList&&okD ops' ops
 |.seq a b,.seq a' b'=>okC P ntmps a a'&&okC P ntmps b b'
 |.cond x a b,.cond y a' b'=>okX x y&&okC P ntmps a a'&&okC P ntmps b b'
 |.blk i b,.block j b'=>i == j&&okC P ntmps b b'
 |.loop _ _ b,.loop b'=>okC P ntmps b b'
 |.fgt _ _ _ b,b'=>okC P ntmps b b'
 |.rng x ps mvs keep _ b,.rangeFunc y ps' asg b'=>okX x y&&ps == ps'.toList&&ps.all (fun p=>decide (p < ntmps.n)&&!inl (keep ++ ntmps.pins) p) &&
   (match asg with|.region _ ops draw=>okMvs ⟨ntmps.n,keep ++ ntmps.pins,true⟩ mvs ops.toList&&!draw|_=>false)&&b.flat&&okC P ⟨ntmps.n,keep ++ ntmps.pins,true⟩ b b'
 |_,_=>false
end Go.Ab

namespace Go.Ab
open Go
structure Ent where
 w0:World
 Wr:Nat->Nat->Prop
 F0:Nat->Nat->Prop
 G0:Nat->Prop
 pars:List Value
 wr:∀ b off,Wr b off->∀ es clock,w0.heap[b]?≠some (.map es clock)
 wk:World
 Fk:Nat->Nat->Prop
 Mb:Nat->Prop
 fk:∀ b off,Fk b off->(wk.cell? ⟨b,off,none⟩).isSome=true
def KeepO (E:Ent) (b:Nat):Obj->Prop
 |.cells _ _ _=>False
 |.map _ _=>¬ E.Mb b
 |_=>True
def BoxOk (E:Ent) (C:Ctx) (L:Loc) (cs:List V):Prop :=
 (∃ (cur:Array Value) (e:TypeId) (g:Nat->Value),C.w.heap[L.blk]?=some (.cells cur e (0,0)) /\
  ∀ (j:Nat) (c:V),cs[j]?=some c->cur[L.base+j]?=some (g j)/\(g j).oneCell'=true/\R C c (g j)) /\
 (∀ j,j < cs.length->¬ C.F L.blk (L.base+j)/\(E.w0.heap.size<=L.blk\/E.Wr L.blk (L.base+j))) /\
 ((∀ off,¬ C.F L.blk off)\/¬ C.G L.blk)
def RowsOk (E:Ent) (C:Ctx) (L:Loc) (s:Nat) (rs:List (List V)):Prop :=
 L.base=0/\rs.length<=L.cap/\L.cap<=maxLen/\(∀ row∈rs,row.length=s) /\
 (∃ (cur:Array Value) (e:TypeId) (g:Nat->Nat->Value),C.w.heap[L.blk]?=some (.cells cur e (0,0))/\cur.size=L.cap * s /\
  ∀ i j c,at2 rs i j=some c->cur[i * s+j]?=some (g i j)/\(g i j).oneCell'=true/\c.closed=true/\R C c (g i j)) /\
 (∀ off,¬ C.F L.blk off/\(E.w0.heap.size<=L.blk\/E.Wr L.blk off))/\C.G L.blk
def EntOk (E:Ent) (C:Ctx) (r j:Nat) (v:V) (u:Value):Prop :=
 match v with
 |.own s rows=>∃ (b cap:Nat) (cur:Array Value) (e:TypeId) (g:Nat->Nat->Value),u=.slice (some ⟨b,0,none⟩) rows.length cap/\rows≠[]/\0 < s/\rows.length<=cap/\cap<=maxLen/\(∀ row∈rows,row.length=s) /\
   C.w.heap[b]?=some (.cells cur e (0,0))/\cur.size=cap * s /\
   (∀ i j c,at2 rows i j=some c->cur[i * s+j]?=some (g i j)/\(g i j).oneCell'=true/\C.F b (i * s+j)/\c.closed=true/\R C c (g i j)) /\
   E.w0.heap.size<=b/\C.G b/\C.own b=some (r,j)/\∀ off,rows.length * s<=off->¬ C.F b off
 |v=>v.closed=true/\R C v u
def MapOk (E:Ent) (C:Ctx) (r:Nat) (L:Loc) (ks vs:List V):Prop :=
 (∃ (clock:Nat) (ents:Array MapEntry),C.w.heap[L.blk]?=some (.map ents clock)/\ks.length=ents.size/\vs.length=ents.size /\
  (∀ (j:Nat) k,ks[j]?=some k->k.keyOk=true/\∃ e,ents[j]?=some e/\R C k e.key)/\∀ (j:Nat) v,vs[j]?=some v->∃ e,ents[j]?=some e/\EntOk E C r j v e.val) /\
 E.w0.heap.size<=L.blk/\(∀ off,¬ C.F L.blk off)/\E.Mb L.blk
def ObjOk (E:Ent) (C:Ctx) (r:Nat):Prop :=
 match C.heap r with
 |.dead=>True
 |.box cs=>∃ L,C.loc r=some L/\BoxOk E C L cs
 |.rows s rs=>(rs=[]/\C.loc r=none)\/∃ L,C.loc r=some L/\RowsOk E C L s rs
 |.mp ks vs=>∃ L,C.loc r=some L/\MapOk E C r L ks vs
structure Inv (E:Ent) (n:Sz) (C:Ctx) (st:St) (a:Act):Prop where
 heap:C.heap=st.heap
 env:∀ t,R C (st.env t) (a.tmps.getD t undef)
 objs:∀ r,ObjOk E C r
 inj:∀ r r' L L',C.loc r=some L->C.loc r'=some L'->(C.heap r).isDead=false->(C.heap r').isDead=false->L.blk=L'.blk->r=r'
 fin:∀ b off,C.F b off->b < C.w.heap.size
 gnew:∀ b,E.w0.heap.size<=b->C.G b
 frame:Frame E.w0 C.w E.Wr
 marks:∀ d∈a.defers,∃ D,d={ target:=.collected D,args:=#[] }/\C.w.heap[D]?=some (.deferred (some []))/\E.w0.heap.size<=D
 mnd:a.defers.Nodup
 fkeep:∀ b off,E.Fk b off->C.F b off/\C.w.cell? ⟨b,off,none⟩=E.wk.cell? ⟨b,off,none⟩
 stay:∀ (b:Nat) o,KeepO E b o->E.wk.heap[b]?=some o->C.w.heap[b]?=some o
 mball:n.nomap=false->∀ b,E.Mb b
 wsz:E.wk.heap.size<=C.w.heap.size
 size:a.tmps.size=n.n
 par:∀ i∈n.pins,a.tmps.getD i undef=E.pars.getD i undef
 fnew:∀ b off,C.F b off->E.F0 b off\/C.G b
 gsub:∀ b,C.G b->E.G0 b
variable {E:Ent} {n:Sz} {C:Ctx} {st:St} {a:Act}
structure Hist (E:Ent) (C':Ctx) (a:Act):Prop where
 marks:∀ d∈a.defers,∃ D,d={ target:=.collected D,args:=#[] }/\C'.w.heap[D]?=some (.deferred (some []))/\E.w0.heap.size<=D
 mnd:a.defers.Nodup
 fkeep:∀ b off,E.Fk b off->C'.F b off/\C'.w.cell? ⟨b,off,none⟩=E.wk.cell? ⟨b,off,none⟩
 stay:∀ (b:Nat) o,KeepO E b o->E.wk.heap[b]?=some o->C'.w.heap[b]?=some o
 wsz:E.wk.heap.size<=C'.w.heap.size
theorem Inv.hist (h:Inv E n C st a) {C':Ctx} (hF:∀ b off,C.F b off->C'.F b off/\C'.w.cell? ⟨b,off,none⟩=C.w.cell? ⟨b,off,none⟩) (hO:∀ (b:Nat) o,KeepO E b o->C.w.heap[b]?=some o->C'.w.heap[b]?=some o) (hs:C.w.heap.size<=C'.w.heap.size:=by first|exact Nat.le_refl _|simp):Hist E C' a :=
 ⟨fun d hd=>let ⟨D,h1,h2,h3⟩:=h.marks d hd; ⟨D,h1,hO D _ trivial h2,h3⟩,h.mnd,fun b off hf=>let ⟨h1,h2⟩:=h.fkeep b off hf; ⟨(hF b off h1).1,(hF b off h1).2.trans h2⟩,fun b o ho hb=>hO b o ho (h.stay b o ho hb),Nat.le_trans h.wsz hs⟩
theorem inl_iff {l:List Nat} {r:Nat}:inl l r=true↔r∈l:=by
 induction l with
 |nil=>simp [inl]
 |cons k l ih=>simp [inl,ih]
theorem nodupB_iff:∀ {l:List Nat},nodupB l=true->l.Nodup
 |[],_=>List.nodup_nil
 |x::l,h=>by
  simp only [nodupB,Bool.and_eq_true,Bool.not_eq_true'] at h
  exact List.nodup_cons.2 ⟨fun hm=>(by rw [inl_iff.2 hm] at h; exact absurd h.1 (by simp)),nodupB_iff h.2⟩
theorem getD_put {tmps:Array Value} {d t:Nat} {u:Value} (hd:d < tmps.size):(tmps.setIfInBounds d u).getD t undef=if t=d then u else tmps.getD t undef:=by
 by_cases h:t=d
 ·subst h; simp [Array.getD,hd]
 ·have:¬ d=t:=fun e=>h e.symm
  simp [Array.getD_eq_getD_getElem?,this,h]
theorem Inv.put (h:Inv E n C st a) {d d':Option Nat} (hd:okDst n d d'=true) {v:V} {u:Value} (hv:R C v u):Inv E n C (st.put d v) (a.put d' u):=by
 cases d with
 |none=>cases d' with
  |none=>exact h
  |some e=>simp [okDst] at hd
 |some d => cases d' with
  |none=>simp [okDst] at hd
  |some e =>
   simp only [okDst,Bool.and_eq_true,beq_iff_eq,decide_eq_true_eq,Bool.not_eq_true'] at hd
   obtain ⟨⟨rfl,hd⟩,hpin⟩:=hd
   have hs:d < a.tmps.size:=by rw [h.size]; exact hd
   exact {
    heap:=h.heap,env:=fun t=>by
     simp only [St.put,Act.put,upd]
     rw [getD_put hs]
     split
     ·exact hv
     ·exact h.env t
    objs:=h.objs,inj:=h.inj,fin:=h.fin,gnew:=h.gnew,gsub:=h.gsub,fnew:=h.fnew,frame:=h.frame,marks:=h.marks,mnd:=h.mnd,fkeep:=h.fkeep,stay:=h.stay,wsz:=h.wsz,mball:=h.mball
    par:=fun i hi=>by
     have:i≠d:=fun e=>by subst e; rw [inl_iff.2 hi] at hpin; cases hpin
     simp only [Act.put]
     rw [getD_put hs,if_neg this]
     exact h.par i hi
    size:=by simp [Act.put,h.size] }
theorem constOk_R {v:V} {u:Value} (h:constOk v u=true) (C:Ctx):R C v u:=by
 unfold constOk at h
 split at h
 ·simp at h; subst h; exact .bool _
 ·simp at h; obtain ⟨rfl,rfl⟩:=h; exact .int _ _
 ·rename_i a b
  have:a=b:=by
   cases a; cases b; simp at h; congr 1
  subst this; exact .str _
 ·exact .nilp
 ·exact .nilf
 ·exact .nils _
 ·exact .undef _
 ·cases h
theorem Inv.ev (h:Inv E n C st a) {x:X} {y:Operand} (hx:okX x y=true):R C (x.ev st) (a.eval y):=by
 unfold okX at hx
 split at hx
 ·rename_i m k
  simp only [beq_iff_eq] at hx
  subst hx
  exact h.env m
 ·rename_i f g
  simp only [beq_iff_eq] at hx
  subst hx
  exact .fn f [] [] [] [] rfl rfl (fun j c hj=>by simp at hj) (fun j c hj=>by simp at hj)
 ·exact constOk_R hx C
 ·cases hx
structure Ext (w w':World):Prop where
 os:w'.os=w.os
 output:w'.output=w.output
 tape:w'.tape=w.tape
 size:w.heap.size<=w'.heap.size
 same:∀ b,b < w.heap.size->w'.heap[b]?=w.heap[b]?
theorem Ext.refl (w:World):Ext w w:=⟨rfl,rfl,rfl,Nat.le_refl _,fun _ _=>rfl⟩
theorem Ext.trans {w w' w'':World} (h:Ext w w') (h':Ext w' w''):Ext w w'' :=
 ⟨h'.os.trans h.os,h'.output.trans h.output,h'.tape.trans h.tape,Nat.le_trans h.size h'.size,fun b hb=>(h'.same b (Nat.lt_of_lt_of_le hb h.size)).trans (h.same b hb)⟩
theorem Ext.alloc (w:World) (o:Obj):Ext w (w.alloc o):=⟨rfl,rfl,rfl,by simp,fun b hb=>by first|exact heap_alloc_old w o b hb|exact heap_alloc_old w o hb⟩
theorem Ext.drew (w:World):Ext w w.drew:=⟨rfl,rfl,rfl,Nat.le_refl _,fun _ _=>rfl⟩
theorem Ext.cell {w w':World} (h:Ext w w') {a:Addr} (ha:a.block < w.heap.size):w'.cell? a=w.cell? a:=World.cell?_of_block (h.same _ ha)
theorem sameBut_refl {W:Nat->Prop} (o:Option Obj):sameBut W o o:=by
 cases o with
 |none=>rfl
 |some o=>cases o <;> first|exact ⟨rfl,rfl,rfl,fun _ _=>rfl⟩|rfl
theorem Frame.ext {w0 w w':World} {W:Nat->Nat->Prop} (h:Frame w0 w W) (h':Ext w w'):Frame w0 w' W :=
 ⟨h'.os.trans h.os,h'.output.trans h.output,h'.tape.trans h.tape,Nat.le_trans h.size h'.size,fun b hb=>by
  rw [h'.same b (Nat.lt_of_lt_of_le hb h.size)]; exact h.same b hb⟩
theorem block_lt {w:World} {b:Nat} {o:Obj} (h:w.heap[b]?=some o):b < w.heap.size:=(Array.getElem?_eq_some_iff.1 h).1
theorem Compat.ext {w':World} (h:Ext C.w w') (hfin:∀ b off,C.F b off->b < C.w.heap.size) {p:Nat->Bool}:Compat p C { C with w:=w' } :=
 ⟨fun b off hF=>⟨hF,h.cell (a:=⟨b,off,none⟩) (hfin b off hF)⟩,fun _ h=>h,fun _ cs _ h=>⟨⟨cs,h⟩,rfl⟩,fun _ _ rs _ h=>⟨⟨rs,h,rfl⟩,rfl⟩,fun _ ks vs _ h=>⟨⟨ks,vs,h⟩,rfl⟩⟩
theorem BoxOk.mono {C':Ctx} {L:Loc} {cs:List V} (hc:Compat (fun _=>false) C C') (hb:C'.w.heap[L.blk]?=C.w.heap[L.blk]?)
  (hF:∀ off,C'.F L.blk off->C.F L.blk off) (hG:C'.G L.blk->C.G L.blk) (h:BoxOk E C L cs):BoxOk E C' L cs:=by
 obtain ⟨⟨cur,e,g,h1,h2⟩,h3,h4⟩:=h
 refine ⟨⟨cur,e,g,hb.trans h1,fun j c hj=>?_⟩,fun j hj=>⟨fun hf=>(h3 j hj).1 (hF _ hf),(h3 j hj).2⟩,h4.imp (fun h off hf=>h off (hF _ hf)) (fun h hg=>h (hG hg))⟩
 obtain ⟨a1,a2,a3⟩:=h2 j c hj
 exact ⟨a1,a2,a3.mono hc⟩
theorem RowsOk.mono {C':Ctx} {L:Loc} {s:Nat} {rs:List (List V)} (hc:Compat (fun _=>false) C C') (hb:C'.w.heap[L.blk]?=C.w.heap[L.blk]?)
  (hF:∀ off,C'.F L.blk off->C.F L.blk off) (h:RowsOk E C L s rs):RowsOk E C' L s rs:=by
 obtain ⟨h0,h1,h2,h3,⟨cur,e,g,h4,h5,h6⟩,h7,h8⟩:=h
 refine ⟨h0,h1,h2,h3,⟨cur,e,g,hb.trans h4,h5,fun i j c hij=>?_⟩,fun off=>⟨fun hf=>(h7 off).1 (hF _ hf),(h7 off).2⟩,hc.G _ h8⟩
 obtain ⟨a1,a2,a3,a4⟩:=h6 i j c hij
 exact ⟨a1,a2,a3,a4.mono hc⟩
structure Keeps (C C':Ctx) (r:Nat):Prop where
 ent:∀ b j,C.own b=some (r,j)->C.F b 0->C.G b->C'.own b=C.own b/\C'.w.heap[b]?=C.w.heap[b]?/\∀ off,C'.F b off->C.F b off
theorem row_first {rows:List (List V)} {s:Nat} (hne:rows≠[]) (hs:0 < s) (hw:∀ row∈rows,row.length=s):∃ c,at2 rows 0 0=some c:=by
 cases rows with
 |nil=>exact absurd rfl hne
 |cons row rows =>
  have:=hw row (by simp)
  cases row with
  |nil=>simp at this; omega
  |cons c row=>exact ⟨c,rfl⟩
theorem EntOk.other {r j:Nat} {v:V} {u:Value} (hv:∀ s rows,v≠.own s rows):EntOk E C r j v u=(v.closed=true/\R C v u):=by
 unfold EntOk; split <;> first|exact absurd rfl (hv _ _)|rfl
theorem EntOk.mono {C':Ctx} {r j:Nat} {v:V} {u:Value} (hc:Compat (fun _=>false) C C') (hk:Keeps C C' r) (h:EntOk E C r j v u):EntOk E C' r j v u:=by
 by_cases hv:∃ s rows,v=.own s rows
 ·obtain ⟨s,rows,rfl⟩:=hv
  obtain ⟨b,cap,cur,e,g,h1,h2,h3,h4,h5,h6,h7,h8,h9,h10,h11,h12,h13⟩:=h
  obtain ⟨c0,hc0⟩:=row_first h2 h3 h6
  have hF0:=(h9 0 0 c0 hc0).2.2.1
  simp only [Nat.zero_mul,Nat.zero_add] at hF0
  obtain ⟨k0,k1,k2⟩:=hk.ent b j h12 hF0 h11
  refine ⟨b,cap,cur,e,g,h1,h2,h3,h4,h5,h6,k1.trans h7,h8,fun i j c hij=>?_,h10,hc.G _ h11,by rw [k0]; exact h12,fun off ho hf=>h13 off ho (k2 off hf)⟩
  obtain ⟨a1,a2,a3,a4,a5⟩:=h9 i j c hij
  exact ⟨a1,a2,(hc.F _ _ a3).1,a4,a5.mono hc⟩
 ·have hne:∀ s rows,v≠.own s rows:=fun s rows e=>hv ⟨s,rows,e⟩
  rw [EntOk.other hne] at h ⊢
  exact ⟨h.1,h.2.mono hc⟩
theorem MapOk.mono {C':Ctx} {r:Nat} {L:Loc} {ks vs:List V} (hc:Compat (fun _=>false) C C') (hk:Keeps C C' r) (hb:C'.w.heap[L.blk]?=C.w.heap[L.blk]?)
  (hF:∀ off,C'.F L.blk off->C.F L.blk off) (h:MapOk E C r L ks vs):MapOk E C' r L ks vs:=by
 obtain ⟨⟨clock,ents,h1,h2,h3,h4,h5⟩,h6,h7,h8⟩:=h
 refine ⟨⟨clock,ents,hb.trans h1,h2,h3,fun j k hj=>?_,fun j v hj=>?_⟩,h6,fun off hf=>h7 off (hF off hf),h8⟩
 ·obtain ⟨a1,e,a2,a3⟩:=h4 j k hj
  exact ⟨a1,e,a2,a3.mono hc⟩
 ·obtain ⟨e,a2,a3⟩:=h5 j v hj
  exact ⟨e,a2,a3.mono hc hk⟩
theorem ObjOk.lt {r:Nat} (h:ObjOk E C r) {L:Loc} (hl:C.loc r=some L) (ha:(C.heap r).isDead=false):L.blk < C.w.heap.size:=by
 unfold ObjOk at h
 split at h
 ·rename_i e; simp [e,AO.isDead] at ha
 ·obtain ⟨L',hl',⟨⟨cur,e,g,h1,_⟩,_⟩⟩:=h
  rw [hl] at hl'; cases hl'; exact block_lt h1
 ·rcases h with ⟨_,h⟩|⟨L',hl',h⟩
  ·rw [hl] at h; cases h
  ·rw [hl] at hl'; cases hl'
   obtain ⟨_,_,_,_,⟨cur,e,g,h4,_⟩,_⟩:=h
   exact block_lt h4
 ·obtain ⟨L',hl',⟨⟨clock,ents,h1,_⟩,_⟩⟩:=h
  rw [hl] at hl'; cases hl'; exact block_lt h1
theorem ObjOk.apart {r:Nat} (h:ObjOk E C r) {L:Loc} (hl:C.loc r=some L) (ha:(C.heap r).isDead=false) {b:Nat} (hF:C.F b 0) (hG:C.G b):b≠L.blk:=by
 rintro rfl
 unfold ObjOk at h
 split at h
 ·rename_i e; simp [e,AO.isDead] at ha
 ·obtain ⟨L',hl',_,_,h3⟩:=h
  rw [hl] at hl'; cases hl'
  rcases h3 with h3|h3
  ·exact h3 0 hF
  ·exact h3 hG
 ·rcases h with ⟨_,h⟩|⟨L',hl',_,_,_,_,_,h7,_⟩
  ·rw [hl] at h; cases h
  ·rw [hl] at hl'; cases hl'
   exact (h7 0).1 hF
 ·obtain ⟨L',hl',_,_,h3,_⟩:=h
  rw [hl] at hl'; cases hl'
  exact h3 0 hF
theorem ObjOk.mono {C':Ctx} {r:Nat} (hc:Compat (fun _=>false) C C') (hk:Keeps C C' r) (hh:C'.heap r=C.heap r) (hl:C'.loc r=C.loc r)
  (hb:∀ L,C.loc r=some L->(C.heap r).isDead=false->C'.w.heap[L.blk]?=C.w.heap[L.blk]?/\(∀ off,C'.F L.blk off->C.F L.blk off)/\(C'.G L.blk->C.G L.blk))
  (h:ObjOk E C r):ObjOk E C' r:=by
 unfold ObjOk at h ⊢
 rw [hh,hl]
 split
 ·trivial
 ·rename_i cs e
  rw [e] at h
  obtain ⟨L,h1,h2⟩:=h
  obtain ⟨b1,b2,b3⟩:=hb L h1 (by rw [e]; rfl)
  exact ⟨L,h1,h2.mono hc b1 b2 b3⟩
 ·rename_i s rs e
  rw [e] at h
  rcases h with h|⟨L,h1,h2⟩
  ·exact .inl h
  ·obtain ⟨b1,b2,_⟩:=hb L h1 (by rw [e]; rfl)
   exact .inr ⟨L,h1,h2.mono hc b1 b2⟩
 ·rename_i ks vs e
  rw [e] at h
  obtain ⟨L,h1,h2⟩:=h
  obtain ⟨b1,b2,_⟩:=hb L h1 (by rw [e]; rfl)
  exact ⟨L,h1,h2.mono hc hk b1 b2⟩
theorem Inv.grow (h:Inv E n C st a) {w':World} (hx:Ext C.w w') {F':Nat->Nat->Prop} (hF:∀ b off,C.F b off->F' b off)
  (hF':∀ b off,F' b off->C.F b off\/(C.w.heap.size<=b/\b < w'.heap.size)):Inv E n { C with w:=w',F:=F' } st a:=by
 have hc:Compat (fun _=>false) C { C with w:=w',F:=F' } :=
  ⟨fun b off hf=>⟨hF b off hf,hx.cell (a:=⟨b,off,none⟩) (h.fin b off hf)⟩,fun _ h=>h,fun _ cs _ h=>⟨⟨cs,h⟩,rfl⟩,fun _ _ rs _ h=>⟨⟨rs,h,rfl⟩,rfl⟩,fun _ ks vs _ h=>⟨⟨ks,vs,h⟩,rfl⟩⟩
 have hh:Hist E { C with w:=w',F:=F' } a:=h.hist hc.F (fun b o _ hb=>(hx.same b (block_lt hb)).trans hb) hx.size
 exact {
   heap:=h.heap,env:=fun t=>(h.env t).mono hc
   objs:=fun r=>(h.objs r).mono hc ⟨fun b _ _ hb _=>⟨rfl,hx.same _ (h.fin b 0 hb),fun off hf=>(hF' b off hf).resolve_right (fun ⟨h1,_⟩=>absurd (h.fin b 0 hb) (Nat.not_lt.2 h1))⟩⟩ rfl rfl fun L hl ha=>by
    have hlt:=(h.objs r).lt hl ha
    exact ⟨hx.same _ hlt,fun off hf=>(hF' _ _ hf).resolve_right (fun ⟨h1,_⟩=>absurd hlt (Nat.not_lt.2 h1)),fun h=>h⟩
   inj:=h.inj
   fin:=fun b off hf=>by
    rcases hF' b off hf with hf|⟨_,h2⟩
    ·exact Nat.lt_of_lt_of_le (h.fin b off hf) hx.size
    ·exact h2
   gnew:=h.gnew,gsub:=h.gsub,par:=h.par
   fnew:=fun b off hf=>by
    rcases hF' b off hf with hf|⟨h1,_⟩
    ·exact h.fnew b off hf
    ·exact .inr (h.gnew b (Nat.le_trans h.frame.size h1))
   frame:=h.frame.ext hx,marks:=hh.marks,mnd:=hh.mnd,fkeep:=hh.fkeep,stay:=hh.stay,wsz:=hh.wsz,mball:=h.mball,size:=h.size }
theorem Inv.ext (h:Inv E n C st a) {w':World} (hx:Ext C.w w'):Inv E n { C with w:=w' } st a :=
 h.grow hx (fun _ _ h=>h) (fun _ _ h=>.inl h)
theorem keyOk_closed {k:V} (h:k.keyOk=true):k.closed=true:=by
 cases k <;> simp [V.keyOk] at h <;> rfl
theorem R.objs {hp:Nat->AO} {lc:Nat->Option Loc} {v:V} {u:Value} (h:R C v u) (hv:v.closed=true):R { C with heap:=hp,loc:=lc } v u :=
 R.of_closed (C:=C) (C':={ C with heap:=hp,loc:=lc }) (fun _ _ hf=>⟨hf,rfl⟩) (fun _ h=>h) h hv
theorem EntOk.heaps {hp:Nat->AO} {lc:Nat->Option Loc} {r j:Nat} {v:V} {u:Value} (h:EntOk E C r j v u):EntOk E { C with heap:=hp,loc:=lc } r j v u:=by
 by_cases hv:∃ s rows,v=.own s rows
 ·obtain ⟨s,rows,rfl⟩:=hv
  obtain ⟨b,cap,cur,e,g,h1,h2,h3,h4,h5,h6,h7,h8,h9,h10,h11,h12,h13⟩:=h
  refine ⟨b,cap,cur,e,g,h1,h2,h3,h4,h5,h6,h7,h8,fun i j c hij=>?_,h10,h11,h12,h13⟩
  obtain ⟨a1,a2,a3,a4,a5⟩:=h9 i j c hij
  exact ⟨a1,a2,a3,a4,a5.objs a4⟩
 ·have hne:∀ s rows,v≠.own s rows:=fun s rows e=>hv ⟨s,rows,e⟩
  rw [EntOk.other hne] at h ⊢
  exact ⟨h.1,h.2.objs h.1⟩
theorem Inv.killP (h:Inv E n C st a) (p:Nat->Bool):Inv E n { C with heap:=fun i=>if p i then .dead else (C.heap i).kill p } (st.killP p) a:=by
 have hc:Compat p C { C with heap:=fun i=>if p i then .dead else (C.heap i).kill p } :=
  ⟨fun b off hf=>⟨hf,rfl⟩,fun _ h=>h,fun r cs hp h=>⟨⟨cs.map (V.kill1 p),by simp [hp,h,AO.kill]⟩,rfl⟩,fun r s rs hp h=>⟨⟨rs,by simp [hp,h,AO.kill],rfl⟩,rfl⟩,fun r ks vs hp h=>⟨⟨ks,vs,by simp [hp,h,AO.kill]⟩,rfl⟩⟩
 have dead:∀ r,(if p r then AO.dead else (C.heap r).kill p).isDead=false->p r=false/\(C.heap r).isDead=false:=fun r hr=>by
  cases hp:p r with
  |true=>simp [hp,AO.isDead] at hr
  |false =>
   simp only [hp,Bool.false_eq_true,if_false] at hr
   refine ⟨rfl,?_⟩
   cases hh:C.heap r with
   |dead=>rw [hh] at hr; simp [AO.kill,AO.isDead] at hr
   |_=>rfl
 exact {
   heap := by simp [St.killP,h.heap]
   env:=fun t=>(h.env t).kill hc
   objs := fun r=>by
    have ho:=h.objs r
    unfold ObjOk at ho ⊢
    cases hp:p r with
    |true=>simp [hp]
    |false =>
     simp only [hp,Bool.false_eq_true,if_false]
     cases hh:C.heap r with
     |dead=>simp [AO.kill]
     |box cs =>
      rw [hh] at ho
      obtain ⟨L,h1,⟨cur,e,g,h2,h3⟩,h4,h5⟩:=ho
      refine ⟨L,h1,⟨cur,e,g,h2,fun j c hj=>?_⟩,fun j hj=>h4 j (by simpa using hj),h5⟩
      simp only [List.getElem?_map,Option.map_eq_some_iff] at hj
      obtain ⟨c',hj',rfl⟩:=hj
      obtain ⟨a1,a2,a3⟩:=h3 j c' hj'
      exact ⟨a1,a2,a3.kill1 hc⟩
     |rows s rs =>
      rw [hh] at ho
      rcases ho with ho|⟨L,h1,g0,g1,g2,g3,⟨cur,e,g,g4,g5,g6⟩,g7,g8⟩
      ·exact .inl ho
      ·refine .inr ⟨L,h1,g0,g1,g2,g3,⟨cur,e,g,g4,g5,fun i j c hij=>?_⟩,g7,g8⟩
       obtain ⟨a1,a2,a3,a4⟩:=g6 i j c hij
       refine ⟨a1,a2,a3,a4.of_closed ?_ ?_ a3⟩ <;> simp
     |mp ks vs =>
      rw [hh] at ho
      obtain ⟨L,h1,⟨clock,ents,g1,g2,g3,g4,g5⟩,g6,g7⟩:=ho
      refine ⟨L,h1,⟨clock,ents,g1,g2,g3,fun j k hj=>?_,fun j v hj=>?_⟩,g6,g7⟩
      ·obtain ⟨a1,e,a2,a3⟩:=g4 j k hj
       exact ⟨a1,e,a2,a3.objs (keyOk_closed a1)⟩
      ·obtain ⟨e,a2,a3⟩:=g5 j v hj
       exact ⟨e,a2,a3.heaps⟩
   inj:=fun r r' L L' hl hl' hr hr' hb=>h.inj r r' L L' hl hl' (dead r hr).2 (dead r' hr').2 hb
   fin:=h.fin,gnew:=h.gnew,gsub:=h.gsub,par:=h.par,fnew:=h.fnew,frame:=h.frame,marks:=h.marks,mnd:=h.mnd,fkeep:=h.fkeep,stay:=h.stay,wsz:=h.wsz,mball:=h.mball,size:=h.size }
theorem Inv.kills (h:Inv E n C st a) (l:List Nat):∃ C',Inv E n C' (st.kills l) a/\C'.w=C.w/\C'.F=C.F/\C'.G=C.G/\C'.loc=C.loc:=by
 cases l with
 |nil=>exact ⟨C,h,rfl,rfl,rfl,rfl⟩
 |cons k l=>exact ⟨_,h.killP _,rfl,rfl,rfl,rfl⟩
theorem Inv.obj (h:Inv E n C st a) {r:Nat} (hr:(st.heap r).isDead=true) {o:AO} {L:Option Loc}
  (ho:ObjOk E { C with heap:=upd C.heap r o,loc:=upd C.loc r L } r)
  (hnew:∀ L',L=some L'->∀ r' L'',r'≠r->C.loc r'=some L''->(C.heap r').isDead=false->L''.blk≠L'.blk) :
  Inv E n { C with heap:=upd C.heap r o,loc:=upd C.loc r L } (st.set r o) a:=by
 have hd:C.heap r=.dead:=by
  rw [h.heap]
  cases hh:st.heap r with
  |dead=>rfl
  |_=>rw [hh] at hr; simp [AO.isDead] at hr
 have hc:Compat (fun _=>false) C { C with heap:=upd C.heap r o,loc:=upd C.loc r L }:=by
  refine ⟨fun b off hf=>⟨hf,rfl⟩,fun _ h=>h,fun r' cs _ h'=>?_,fun r' s rs _ h'=>?_,fun r' ks vs _ h'=>?_⟩
  ·have hne:r'≠r:=fun e=>by subst e; rw [hd] at h'; cases h'
   exact ⟨⟨cs,by simp [upd,hne,h']⟩,by simp [upd,hne]⟩
  ·have hne:r'≠r:=fun e=>by subst e; rw [hd] at h'; cases h'
   exact ⟨⟨rs,by simp [upd,hne,h'],rfl⟩,by simp [upd,hne]⟩
  ·have hne:r'≠r:=fun e=>by subst e; rw [hd] at h'; cases h'
   exact ⟨⟨ks,vs,by simp [upd,hne,h']⟩,by simp [upd,hne]⟩
 exact {
   heap:=by simp [St.set,h.heap]
   env:=fun t=>(h.env t).mono hc
   objs:=fun r'=>by
    by_cases e:r'=r
    ·subst e; exact ho
    ·exact (h.objs r').mono hc ⟨fun _ _ _ _ _=>⟨rfl,rfl,fun _ h=>h⟩⟩ (by simp [upd,e]) (by simp [upd,e]) fun L _ _=>⟨rfl,fun _ h=>h,fun h=>h⟩
   inj := fun r1 r2 L1 L2 h1 h2 d1 d2 hb=>by
    by_cases e1:r1=r
    ·by_cases e2:r2=r
     ·exact e1.trans e2.symm
     ·exfalso
      simp only [upd,e1,if_true] at h1
      simp only [upd,e2,if_false] at h2 d2
      exact hnew L1 h1 r2 L2 e2 h2 d2 hb.symm
    ·by_cases e2:r2=r
     ·exfalso
      simp only [upd,e2,if_true] at h2
      simp only [upd,e1,if_false] at h1 d1
      exact hnew L2 h2 r1 L1 e1 h1 d1 hb
     ·simp only [upd,e1,e2,if_false] at h1 h2 d1 d2
      exact h.inj r1 r2 L1 L2 h1 h2 d1 d2 hb
   fin:=h.fin,gnew:=h.gnew,gsub:=h.gsub,par:=h.par,fnew:=h.fnew,frame:=h.frame,marks:=h.marks,mnd:=h.mnd,fkeep:=h.fkeep,stay:=h.stay,wsz:=h.wsz,mball:=h.mball,size:=h.size }
end Go.Ab

namespace Go.Ab
open Go
variable {E:Ent} {n:Sz} {C:Ctx} {st:St} {a:Act} {P:Program}
theorem wp_value {o:Oper} {w w':World} {u:Value} {next:Act->World->Prop} {Q:Exit->Act->World->Prop}
  (h:(execOp a.eval o).run P w=.ok (.value u) w') (hk:next (a.put o.dst u) w'):o.wp P a w next Q:=by
 unfold Oper.wp; rw [h]; exact hk
theorem wp_skip' {o:Oper} {w w':World} {next:Act->World->Prop} {Q:Exit->Act->World->Prop}
  (h:(execOp a.eval o).run P w=.ok .skip w') (hk:next (a.put o.dst undef) w'):o.wp P a w next Q:=by
 unfold Oper.wp; rw [h]; exact hk
theorem R_one {v:V} {u:Value} (h:R C v u) (hne:∀ cs,v≠.agg cs) (hv:v.val=true):u.oneCell'=true/\u.cells=#[u]:=by
 cases h <;> first|(simp [V.val] at hv; done)|(simp [Value.oneCell',Value.cells]; done)|exact absurd rfl (hne _)
theorem val_cells {v:V} (hne:∀ cs,v≠.agg cs):v.cells=[v]:=by
 cases v <;> first|rfl|exact absurd rfl (hne _)
theorem R_cells {v:V} {u:Value} (h:R C v u) (hv:v.val=true) :
  v.cells.length=u.cells.size/\∀ (j:Nat) (c:V),v.cells[j]?=some c->u.cells[j]?=some (u.cells.getD j undef)/\(u.cells.getD j undef).oneCell'=true/\R C c (u.cells.getD j undef):=by
 by_cases hagg:∃ cs,v=.agg cs
 ·obtain ⟨cs,rfl⟩:=hagg
  cases h with
  |agg cs us hl h1 hr =>
   refine ⟨by simpa [V.cells,Value.cells] using hl,fun j c hj=>?_⟩
   simp only [V.cells] at hj
   have hlt:j < us.length:=by rw [<- hl]; exact (List.getElem?_eq_some_iff.1 hj).1
   have e:(Value.agg us.toArray).cells.getD j undef=us.getD j undef:=by simp [Value.cells,Array.getD_eq_getD_getElem?]
   rw [e]
   have e2:us.getD j undef=us[j]:=by simp [hlt]
   refine ⟨?_,?_,hr j c hj⟩
   ·rw [e2]; simp [Value.cells,hlt]
   ·rw [e2]; exact h1 _ (List.getElem_mem hlt)
 ·have hne:∀ cs,v≠.agg cs:=fun cs e=>hagg ⟨cs,e⟩
  obtain ⟨h1,h2⟩:=R_one h hne hv
  rw [val_cells hne,h2]
  refine ⟨rfl,fun j c hj=>?_⟩
  cases j with
  |zero=>simp at hj; subst hj; simp only [Array.getD]; exact ⟨rfl,h1,h⟩
  |succ j=>simp at hj
def View (C:Ctx) (b o:Nat) (cs:List V):Prop :=
 ∃ vals:List Value,vals.length=cs.length/\C.w.rangeAt b o vals/\(∀ u∈vals,u.oneCell'=true)/\∀ (j:Nat) (c:V),cs[j]?=some c->R C c (vals.getD j undef)
theorem getElem?_seg {l:List V} {off k j:Nat} {c:V} (h:((l.drop off).take k)[j]?=some c):l[off+j]?=some c/\j < k:=by
 rw [List.getElem?_take] at h
 split at h
 ·rename_i hj; rw [List.getElem?_drop] at h; exact ⟨h,hj⟩
 ·cases h
theorem view_of {b o off k:Nat} {cs:List V} (hoff:off+k<=cs.length) (g:Nat->Value)
  (hg:∀ (j:Nat) (c:V),cs[j]?=some c->C.w.cell? ⟨b,o+j,none⟩=some (g j)/\(g j).oneCell'=true/\R C c (g j)) :
  View C b (o+off) ((cs.drop off).take k):=by
 have hlen:((cs.drop off).take k).length=k:=by simp; omega
 have hat:∀ j,j < k->∃ c,cs[off+j]?=some c:=fun j hj=>⟨cs[off+j],List.getElem?_eq_getElem (by omega)⟩
 refine ⟨(List.range k).map fun j=>g (off+j),by simp; omega,fun j v hv=>?_,fun u hu=>?_,fun j c hj=>?_⟩
 ·simp only [List.getElem?_map,Option.map_eq_some_iff] at hv
  obtain ⟨i,hi,rfl⟩:=hv
  have hi':=List.getElem?_eq_some_iff.1 hi
  obtain ⟨hlt,rfl⟩:=hi'
  simp only [List.length_range] at hlt
  obtain ⟨c,hc⟩:=hat j hlt
  have:=(hg _ c hc).1
  simpa [Nat.add_assoc] using this
 ·simp only [List.mem_map,List.mem_range] at hu
  obtain ⟨j,hj,rfl⟩:=hu
  obtain ⟨c,hc⟩:=hat j hj
  exact (hg _ c hc).2.1
 ·obtain ⟨h1,h2⟩:=getElem?_seg hj
  have:((List.range k).map fun j=>g (off+j)).getD j undef=g (off+j):=by simp [h2]
  rw [this]
  exact (hg _ c h1).2.2
theorem szOk_spec {t k:Nat} (h:szOk P t k=true):∃ i,P.info? t=some i/\i.size=k:=by
 unfold szOk at h
 cases hi:P.info? t with
 |none=>simp [hi] at h
 |some i=>simp [hi] at h; exact ⟨i,rfl,h⟩
theorem rowOk_spec {t:Nat} {b:Bool} (h:rowOk P t b=true):∃ d,P.underlying t=some d/\d.isRow=b:=by
 unfold rowOk at h
 cases hu:P.underlying t with
 |none=>simp [hu] at h
 |some d=>rw [hu] at h; refine ⟨d,rfl,?_⟩; cases d <;> simp_all
theorem run_isAgg {t:TypeId} {d:TypeDesc} (hu:P.underlying t=some d) (w:World):(isAgg t).run P w=.ok d.isRow w:=by
 unfold isAgg
 rw [Sem.run_bind,run_underlying hu w]
 cases d <;> rfl
theorem run_loadAt {t k:Nat} {agg:Bool} {b o:Nat} {cs:List V} (hs:szOk P t k=true) (hr:rowOk P t agg=true) (ha:(agg||k == 1)=true)
  (hk:cs.length=k) (hv:View C b o cs):∃ u,(Instr.loadAt t (.pointer (some ⟨b,o,none⟩))).run P C.w=.ok u C.w/\R C (if agg then .agg cs else cs.getD 0 .undef) u:=by
 obtain ⟨vals,h1,h2,h3,h4⟩:=hv
 obtain ⟨i,hi,hsz⟩:=szOk_spec hs
 obtain ⟨d,hu,hd⟩:=rowOk_spec hr
 cases agg with
 |true =>
  refine ⟨.agg vals.toArray,?_,.agg cs vals h1.symm h3 h4⟩
  exact run_loadAt_mid C.w b o t vals d h2 hu hd (by simp [hi,hsz,h1,hk])
 |false =>
  simp only [Bool.false_or,beq_iff_eq] at ha
  subst ha
  obtain ⟨c,rfl⟩:=List.length_eq_one_iff.1 hk
  obtain ⟨x,rfl⟩:=List.length_eq_one_iff.1 (h1.trans hk)
  have hx:=h2 0 x rfl
  have hr:=h4 0 c rfl
  refine ⟨x,?_,by simpa using hr⟩
  simp only [Nat.add_zero] at hx
  simp [Instr.loadAt,Instr.sureAddr,loadVar,run_isAgg hu,hd,hx]
theorem Inv.view (h:Inv E n C st a) {p:V} {u:Value} (hp:R C p u) {off k:Nat} {cs:List V}
  (hcs:(∃ r,p=.ptr r off/\C.heap r=.box cs/\off+k<=cs.length)\/(∃ r i s rs,p=.rptr r i off/\C.heap r=.rows s rs/\cs=rs.getD i []/\off+k<=s)\/(p=.cp cs off/\off+k<=cs.length)) :
  ∃ b o,u=.pointer (some ⟨b,o,none⟩)/\View C b o ((cs.drop off).take k)/\off+k<=cs.length:=by
 rcases hcs with ⟨r,rfl,hr,hk⟩|⟨r,i,s,rs,rfl,hr,rfl,hk⟩|⟨rfl,hk⟩
 ·cases hp with
  |ptr _ _ cs' L h' hl =>
   have ho:=h.objs r
   unfold ObjOk at ho
   rw [hr] at ho
   obtain ⟨L',hl',⟨cur,e,g,h1,h2⟩,_⟩:=ho
   rw [hl] at hl'; cases hl'
   refine ⟨_,_,rfl,view_of hk g fun j c hj=>?_,hk⟩
   obtain ⟨a1,a2,a3⟩:=h2 j c hj
   exact ⟨by rw [cell_of_row _ _ _ _ _ _ h1]; exact a1,a2,a3⟩
 ·cases hp with
  |rptr _ _ _ s' rs' L h' hl hi =>
   rw [hr] at h'
   cases h'
   have ho:=h.objs r
   unfold ObjOk at ho
   rw [hr] at ho
   rcases ho with ⟨_,ho⟩|⟨L',hl',g0,g1,g2,g3,⟨cur,e,g,h1,hsz,h2⟩,_⟩
   ·rw [hl] at ho; cases ho
   rw [hl] at hl'; cases hl'
   have hrow:rs.getD i []=rs[i]:=by simp [hi]
   have hlen:(rs.getD i []).length=s:=by rw [hrow]; exact g3 _ (List.getElem_mem hi)
   refine ⟨_,_,rfl,view_of (hlen ▸ hk) (fun j=>g i j) fun j c hj=>?_,hlen ▸ hk⟩
   obtain ⟨a1,a2,_,a3⟩:=h2 i j c (by unfold at2; rw [List.getElem?_eq_getElem hi]; simpa [hi] using hj)
   exact ⟨by rw [cell_of_row _ _ _ _ _ _ h1]; exact a1,a2,a3⟩
 ·cases hp with
  |cp _ _ b base g hcell hcl hr =>
   refine ⟨_,_,rfl,view_of hk g fun j c hj=>?_,hk⟩
   obtain ⟨a1,a2,a3⟩:=hcell j c hj
   exact ⟨a1,a3,hr j c hj⟩
theorem pickc_R {agg:Bool} {k off:Nat} {cs:List V} {u:Value} (ha:(agg||k == 1)=true) (hk:off+k<=cs.length)
  (h:R C (if agg then .agg ((cs.drop off).take k) else ((cs.drop off).take k).getD 0 .undef) u):R C (pickc agg k off cs) u:=by
 unfold pickc
 cases agg with
 |true=>exact h
 |false =>
  simp only [Bool.false_or,beq_iff_eq] at ha
  subst ha
  simpa [List.getElem?_take,List.getElem?_drop] using h
theorem run_load_op {o:Oper} {agg:Bool} {k:Nat} {x:X} {d:Option Nat} {K:St->Prop} {next:Act->World->Prop} {Q:Exit->Act->World->Prop}
  (hinv:Inv E n C st a) (hok:okOp P (.load agg k x) o.op=true) (hd:okDst n d o.dst=true) (h:eff P (.load agg k x) d st K)
  (hn:∀ C' st' a',Inv E n C' st' a'->K st'->next a' C'.w):o.wp P a C.w next Q:=by
 cases hop:o.op <;> rw [hop] at hok <;> simp only [okOp,Bool.and_eq_true,Bool.false_eq_true] at hok
 rename_i t y
 obtain ⟨⟨⟨h1,h2⟩,h3⟩,h4⟩:=hok
 have hR:=hinv.ev h4
 have key:∀ (off:Nat) (cs:List V),(∃ b o,a.eval y=.pointer (some ⟨b,o,none⟩)/\View C b o ((cs.drop off).take k)/\off+k<=cs.length)->K (st.put d (pickc agg k off cs))->o.wp P a C.w next Q:=by
  rintro off cs ⟨b,p,hu,hv,hl⟩ hK
  obtain ⟨u,hrun,hRu⟩:=run_loadAt h1 h2 h3 (by simp; omega) hv
  refine wp_value (u:=u) (w':=C.w) ?_ ?_
  ·simp [execOp,hop,hu,hrun]
  ·exact hn C _ _ (hinv.put hd (pickc_R h3 hl hRu)) hK
 simp only [eff] at h
 split at h
 ·rename_i r off hx
  split at h
  ·rename_i cs hh
   exact key off cs (hinv.view hR (.inl ⟨r,hx,by rw [hinv.heap]; exact hh,h.1⟩)) h.2
  ·exact h.elim
 ·rename_i r i off hx
  split at h
  ·rename_i s rs hh
   exact key off _ (hinv.view hR (.inr (.inl ⟨r,i,s,rs,hx,by rw [hinv.heap]; exact hh,rfl,h.1⟩))) h.2
  ·exact h.elim
 ·rename_i cs off hx
  exact key off cs (hinv.view hR (.inr (.inr ⟨hx,h.1⟩))) h.2
 ·exact h.elim
end Go.Ab
