/-
  find: a G that is taken out of the queues, and runs, leaves a state that may be; where all others are.
  find: what each source takes; what a theft leaves; a G that is started.
  find: a G that is started: out of all queues; all others stand where they stood.
  find: the laws, plainly: who is picked, what a theft leaves, sizes.
-/
import Derived.Test.YtkanpbjjabdalaaK16
import Derived.Test.YtkanpbjjabdalaaK24
set_option linter.all false
namespace Go.Ab
open Go
structure Took (s t:SD) (z:Int):Prop where
 prog:t.prog=s.prog
 gs:t.gs=s.gs
 ms:t.ms=s.ms
 pl:t.ps.length=s.ps.length
 ws:t.w0=s.w0/\t.w1=s.w1/\t.w2=s.w2/\t.w3=s.w3/\t.ts=s.ts
 cs:t.c0=s.c0/\t.c1=s.c1/\t.c2=s.c2/\t.c3=s.c3
 ck:t.ck=s.ck/\t.pr=s.pr
 hP:∀ (j:Nat) x,t.ps[j]?=some x->∃ y,s.ps[j]?=some y/\x.m=y.m/\x.sq=y.sq/\mayR x.r=true/\((j:Int) < s.pr\/(x.nx=0/\x.r.n<=0))
 cnt:∀ n,cR t n+(if n=z then 1 else 0)=cR s n
theorem Took.getP {s t:SD} {z:Int} (h:Took s t z) {p:Int} (hp:p.toNat - 1 < s.ps.length):(getP t p).m=(getP s p).m:=by
 obtain ⟨y,h1,h2,_⟩:=h.hP _ _ (getP_of (s:=t) (p:=p) (by rw [h.pl]; exact hp))
 rw [getP_of hp] at h1
 cases h1; exact h2
structure Looks (s:SD) (p m:Int):Prop where
 ok:OkS s
 p1:1<=p
 p2:p<=s.pr
 em:m=(getP s p).m
 m1:1<=m
 m2:m.toNat<=s.ms.length
 mp:(getM s m).p=p
 g0:(getM s m).g=0
end Go.Ab

namespace Go.Ab
open Go
structure StealP (s:SD) (p v g:Int) (l:List Int) (t:SD):Prop where
 took:Took s t g
 mine:listR (getP t p).r=listR (getP s p).r ++ ((g::l).take (halfN (g::l))).tail
 left:listR (getP t v).r=(g::l).drop (halfN (g::l))
 nx:(getP t v).nx=(getP s v).nx
end Go.Ab

namespace Go.Ab
open Go
end Go.Ab

namespace Go.Ab
open Go
end Go.Ab
