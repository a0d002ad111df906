/-
  Plain facts of states that may be: for the stage's theorem and what follows from it.
  Rings of lists; what is done to a state: plainly.
  An element of an own slice that is written.
  States, in words that are not looked into.
-/
import Derived.Test.YtkanpbjjabdalaaK7
import Derived.Test.YtkanpbjjabdalaaK8
import Derived.Test.YtkanpbjjabdalaaK10
import Derived.Test.YtkanpbjjabdalaaK11
import Derived.Test.YtkanpbjjabdalaaK21
set_option linter.all false
namespace Go.Ab
open Go Go.Proofs
theorem stands_of {s:SD} (hm:mayS s=true) {g:Int} (h1:1<=g) (h2:g<=s.gs.length):standsB s g=true:=by
 rw [mayS_parts] at hm
 simp only [Bool.and_eq_true,List.all_eq_true,List.mem_range] at hm
 have:=hm.2.2.2.2.2 (g - 1).toNat (by omega)
 rwa [show (((g - 1).toNat:Nat):Int)+1=g by omega] at this
theorem in_of {s:SD} (hm:mayS s=true):inB s.gs.length (runnables s)=true:=by
 rw [mayS_parts] at hm
 simp only [Bool.and_eq_true] at hm
 exact hm.2.1
theorem count_of {s:SD} (hm:mayS s=true) {g:Int} (h1:1<=g) (h2:g<=s.gs.length):timesL (runnables s) g=if (s.gs.getD (g.toNat - 1) default).st=1 then 1 else 0:=by
 have:=stands_of hm h1 h2
 unfold standsB at this
 simp only [Bool.and_eq_true,decide_eq_true_eq] at this
 exact this.1.2.1
structure Facts (s:SD) (g:Int) (st:Int) (z:Int×Int):Prop where
 kind:(st=1/\(z.1=1\/z.1=2\/z.1=3))\/(st=2/\z.1=4)\/(st=3/\(z.1=5\/z.1=6))\/(st=4/\z.1=7)\/(st=5/\z.1=8)
 many:timesL (runnables s) g=if st=1 then 1 else 0
 onm:z.1=4\/z.1=7->1<=z.2/\z.2<=s.ms.length/\(s.ms.getD (z.2.toNat - 1) ⟨0,0⟩).g=g
 inq:z.1=1\/z.1=2->1<=z.2/\z.2<=s.pr/\timesL (queueOf (s.ps.getD (z.2.toNat - 1) default)) g=1
theorem sum_step (U:List Int) (x:Int) (l:List Int):(U.map fun g=>(x::l).count g).sum=(U.map fun g=>l.count g).sum+U.count x:=by
 induction U with
 |nil=>rfl
 |cons u U ih =>
  simp only [List.map_cons,List.sum_cons]
  have e1:(if (x == u)=true then 1 else 0)=(if (u == x)=true then 1 else 0):=by
   by_cases h:x=u
   ·simp [h]
   ·have h2:¬ u=x:=fun q=>h q.symm
    simp [h,h2]
  rw [ih,show (x::l).count u=l.count u+if (x == u)=true then 1 else 0 from List.count_cons,show (u::U).count x=U.count x+if (u == x)=true then 1 else 0 from List.count_cons,e1]
  generalize (if (u == x)=true then 1 else 0)=c
  omega
theorem sum_counts (n:Nat):∀ l:List Int,(∀ x∈l,1<=x/\x<=(n:Int))->l.length=((upTo n).map fun g=>l.count g).sum
 |[],_=>by
  have:((upTo n).map fun g=>([]:List Int).count g)=(upTo n).map fun _=>0:=by simp
  rw [this]
  generalize upTo n=U
  induction U with
  |nil=>rfl
  |cons u U ih=>simpa using ih
 |x :: l,h=>by
  rw [sum_step,<- sum_counts n l (fun y hy=>h y (by simp [hy]))]
  have h1:(upTo n).count x=1:=by
   have hx:=upTo_mem.2 (h x (by simp))
   have:=List.count_pos_iff.2 hx
   have:=List.nodup_iff_count.1 (upTo_nodup n) x
   omega
  rw [h1]; rfl
theorem sum_st (l:List GD):(l.map fun x=>if x.st=1 then 1 else 0).sum=l.countP fun x=>decide (x.st=1):=by
 induction l with
 |nil=>rfl
 |cons x l ih =>
  simp only [List.map_cons,List.sum_cons,ih,List.countP_cons]
  by_cases h:x.st=1 <;> simp [h]; omega
theorem run_many {s:SD} (hm:mayS s=true):(runnables s).length=s.gs.countP fun x=>decide (x.st=1):=by
 have hin:=in_of hm
 simp only [inB,List.all_eq_true,decide_eq_true_eq] at hin
 rw [sum_counts s.gs.length (runnables s) hin,<- sum_st]
 congr 1
 refine List.ext_getElem (by simp [upTo]) fun j h1 h2=>?_
 simp only [List.length_map] at h2
 simp only [List.getElem_map,upTo,List.getElem_range]
 have:=count_of hm (g:=(j:Int)+1) (by omega) (by omega)
 rw [show ((j:Int)+1).toNat - 1=j by omega,List.getD_eq_getElem?_getD,List.getElem?_eq_getElem h2,Option.getD_some] at this
 unfold timesL at this
 split at this <;> rename_i hst
 ·rw [if_pos hst]; omega
 ·rw [if_neg hst]; omega
end Go.Ab

namespace Go.Ab
open Go
def mkR (s:Nat->Int) (h m:Int):RD:=⟨s 0,s 1,s 2,s 3,s 4,s 5,s 6,s 7,h,m⟩
theorem mkR_f {s:Nat->Int} {h m:Int} {j:Nat} (hj:j < 8):(mkR s h m).f j=s j:=by
 have:j=0\/j=1\/j=2\/j=3\/j=4\/j=5\/j=6\/j=7:=by omega
 rcases this with rfl|rfl|rfl|rfl|rfl|rfl|rfl|rfl <;> rfl
def atR (h:Int) (l:List Int):RD:=mkR (fun j=>l.getD (((j:Int) - h+8) % 8).toNat 0) h l.length
theorem RingIs.of {s s':Nat->Int} {h m:Int} {l:List Int} (r:RingIs s h m l) (e:∀ j,j < 8->s' j=s j):RingIs s' h m l :=
 ⟨r.h0,r.h1,r.m1,r.me,r.pos,fun j hj=>by rw [e j hj,r.at' j hj]⟩
theorem atR_is {h:Int} {l:List Int} (h0:0<=h) (h1:h < 8) (hl:l.length<=8) (hp:∀ x∈l,1<=x):RingIs (atR h l).f (atR h l).h (atR h l).n l :=
 ⟨h0,h1,hl,rfl,hp,fun j hj=>by
  show (mkR _ h _).f j=_
  rw [mkR_f hj]; rfl⟩
theorem ring_eq {r:RD} {l:List Int} (h:RingIs r.f r.h r.n l):r=atR r.h l:=by
 have e:=h.at'
 have e0:=e 0 (by omega); have e1:=e 1 (by omega); have e2:=e 2 (by omega); have e3:=e 3 (by omega)
 have e4:=e 4 (by omega); have e5:=e 5 (by omega); have e6:=e 6 (by omega); have e7:=e 7 (by omega)
 have em:=h.me
 obtain ⟨b0,b1,b2,b3,b4,b5,b6,b7,hh,n⟩:=r
 simp only [RD.f] at e0 e1 e2 e3 e4 e5 e6 e7 em
 simp only [atR,mkR,RD.mk.injEq]
 exact ⟨e0,e1,e2,e3,e4,e5,e6,e7,trivial,em⟩
theorem RingIs.uniq {s:Nat->Int} {h m:Int} {l l':List Int} (r:RingIs s h m l) (r':RingIs s h m l'):l=l':=by
 have hl:l.length=l'.length:=by have:=r.me; have:=r'.me; omega
 refine List.ext_getElem hl fun i h1 h2=>?_
 have m1:=r.m1
 have a:=r.idx (i:=i) (by omega) (by omega)
 have b:=r'.idx (i:=i) (by omega) (by omega)
 rw [a] at b
 simpa [List.getD_eq_getElem?_getD,h1,h2] using b
theorem mayR_of {r:RD} {l:List Int} (h:RingIs r.f r.h r.n l):mayR r=true/\listR r=l:=by
 have hm:=(mayR_iff r).2 h.may
 exact ⟨hm,(listR_is hm).uniq h⟩
theorem listR_pos {r:RD} (h:mayR r=true):∀ x∈listR r,1<=x:=(listR_is h).pos
theorem listR_n {r:RD} (h:mayR r=true):r.n=(listR r).length:=(listR_is h).me
theorem mayR_h {r:RD} (h:mayR r=true):0<=r.h/\r.h < 8:=⟨(listR_is h).h0,(listR_is h).h1⟩
def getP (s:SD) (p:Int):PD:=s.ps.getD (p.toNat - 1) default
def getG (s:SD) (g:Int):GD:=s.gs.getD (g.toNat - 1) default
def getM (s:SD) (m:Int):MD:=s.ms.getD (m.toNat - 1) ⟨0,0⟩
def setP (s:SD) (p:Int) (x:PD):SD:={ s with ps:=s.ps.set (p.toNat - 1) x }
def setM (s:SD) (m:Int) (x:MD):SD:={ s with ms:=s.ms.set (m.toNat - 1) x }
def setG (s:SD) (g:Int) (x:GD):SD:={ s with gs:=s.gs.set (g.toNat - 1) x }
def layS (s:SD) (p g:Int):SD :=
 let x:=getP s p
 let l:=listR x.r
 if l.length < 8 then setP s p { x with r:=atR x.r.h (l ++ [g]) }
 else { setP s p { x with r:=atR ((x.r.h+4) % 8) (l.drop 4) } with gl:=s.gl ++ l.take 4 ++ [g] }
def nextS (s:SD) (p g:Int):SD :=
 let x:=getP s p
 if x.nx=0 then setP s p { x with nx:=g } else layS (setP s p { x with nx:=g }) p x.nx
def turnS (s:SD) (g st m:Int):SD :=
 let x:=getG s g
 setG s g { x with st:=st,m:=m,sq:=x.sq+1 }
def outS (s:SD) (g:Int):SD :=
 { s with w0:=s.w0.filter fun x=>decide (x≠g),w1:=s.w1.filter fun x=>decide (x≠g),w2:=s.w2.filter fun x=>decide (x≠g),w3:=s.w3.filter fun x=>decide (x≠g),ts:=s.ts.filter fun t=>decide (t.g≠g) }
def tailS (s:SD) (p g:Int):SD:=if 1<=p/\p.toNat<=s.ps.length/\1<=g/\mayR (getP s p).r=true then layS s p g else s
def wakeS (s:SD) (p g:Int):SD:=nextS (turnS (outS s g) g 1 0) p g
def wakeOk (s:SD) (p g:Int):Bool:=mayS s&&decide (1<=p/\p<=s.pr/\1<=g/\g.toNat<=s.gs.length/\(getG s g).st=3)
def yieldS (s:SD) (m:Int):SD :=
 let x:=getM s m
 let t:=setM (turnS s x.g 1 0) m ⟨x.p,0⟩
 { t with gl:=s.gl ++ [x.g] }
def yieldOk (s:SD) (m:Int):Bool:=mayS s&&decide (1<=m/\m.toNat<=s.ms.length/\(getM s m).p≠0/\(getM s m).g≠0)
def drainS (s:SD) (p:Int):SD :=
 let x:=getP s p
 { setP s p { x with nx:=0,r:=⟨0,0,0,0,0,0,0,0,0,0⟩ } with gl:=s.gl ++ queueOf x }
def drainOk (s:SD) (p:Int):Bool:=mayS s&&decide (1<=p/\p<=s.pr)
structure OkS (s:SD):Prop where
 prog:mayP s.prog=true
 g1:1<=s.gs.length
 g2:s.gs.length<=1000
 p8:s.ps.length=8
 pr1:1<=s.pr
 pr8:s.pr<=8
 ms:s.ms.length<=1000
 ck:0<=s.ck/\s.ck < 2305843009213693952
 ts:mayT [] s.ts=true
 gs:∀ x∈s.gs,okG s.prog x=true
 hp:∀ (j:Nat) x,s.ps[j]?=some x->okP s j x=true
 hm:∀ (j:Nat) m,s.ms[j]?=some m->okMp s j m
 c0:okCt s.c0 s.w0=true
 c1:okCt s.c1 s.w1=true
 c2:okCt s.c2 s.w2=true
 c3:okCt s.c3 s.w3=true
 inR:∀ x∈runnables s,1<=x/\x<=s.gs.length
 inW:∀ x∈waiters s,1<=x/\x<=s.gs.length
 inT:∀ x∈onMs s true,1<=x/\x<=s.gs.length
 inF:∀ x∈onMs s false,1<=x/\x<=s.gs.length
 st:∀ n:Int,1<=n->n<=s.gs.length->standsB s n=true
theorem may_ok (s:SD):mayS s=true↔OkS s:=by
 unfold mayS holdsB
 simp only [Bool.and_eq_true,decide_eq_true_eq,List.all_eq_true,allI_iff,inB,List.mem_range]
 constructor
 ·rintro ⟨a1,⟨a2,a3,a4,a5,a6,a7⟩,a8,a9,b1,⟨b2,b3⟩,b4,b5,b6,b7,b8,b9,d1,d2,d3⟩
  refine ⟨a1,a2,a3,a4,a5,a6,a7,a8,a9,b1,fun j x h=>by simpa using b2 j x h,fun j x h=>by simpa using b3 j x h,b4,b5,b6,b7,fun x h=>by simpa using b8 x h,fun x h=>by simpa using b9 x h,fun x h=>by simpa using d1 x h,fun x h=>by simpa using d2 x h,fun n h1 h2=>?_⟩
  have:=d3 (n.toNat - 1) (by omega)
  rwa [show ((n.toNat - 1:Nat):Int)+1=n by omega] at this
 ·intro h
  exact ⟨h.prog,⟨h.g1,h.g2,h.p8,h.pr1,h.pr8,h.ms⟩,h.ck,h.ts,h.gs,⟨fun j x hx=>by simpa using h.hp j x hx,fun j x hx=>by simpa using h.hm j x hx⟩,h.c0,h.c1,h.c2,h.c3,fun x hx=>by simpa using h.inR x hx,fun x hx=>by simpa using h.inW x hx,fun x hx=>by simpa using h.inT x hx,fun x hx=>by simpa using h.inF x hx,fun j hj=>h.st _ (by omega) (by omega)⟩
theorem cnt_set {α:Type} (f:α->List Int) (n:Int):∀ {l:List α} {i:Nat} {a:α} (b:α),l[i]?=some a->((l.set i b).flatMap f).count n+(f a).count n=(l.flatMap f).count n+(f b).count n
 |[],_,_,_,h=>by simp at h
 |x::l,0,a,b,h=>by
  simp at h; subst h
  simp only [List.set_cons_zero,List.flatMap_cons,List.count_append]; omega
 |x::l,i+1,a,b,h=>by
  have:=cnt_set f n b (l:=l) (i:=i) (a:=a) (by simpa using h)
  simp only [List.set_cons_succ,List.flatMap_cons,List.count_append]; omega
def cR (s:SD) (n:Int):Nat:=(runnables s).count n
def cW (s:SD) (n:Int):Nat:=(waiters s).count n
def cM (s:SD) (w:Bool) (n:Int):Nat:=(onMs s w).count n
def onM1 (w:Bool) (m:MD):List Int:=if m.g≠0/\(decide (m.p≠0) == w)=true then [m.g] else []
theorem onMs_flat (s:SD) (w:Bool):onMs s w=s.ms.flatMap (onM1 w):=by
 unfold onMs
 induction s.ms with
 |nil=>rfl
 |cons m l ih =>
  rw [List.filter_cons,List.flatMap_cons,<- ih]
  unfold onM1
  by_cases h:m.g≠0/\(decide (m.p≠0) == w)=true
  ·rw [if_pos h,if_pos (by simpa using h)]; rfl
  ·rw [if_neg h,if_neg (by simpa using h)]; rfl
theorem cM_set {s:SD} {m:Int} {x:MD} (hx:s.ms[m.toNat - 1]?=some x) (y:MD) (w:Bool) (n:Int):cM (setM s m y) w n+(onM1 w x).count n=cM s w n+(onM1 w y).count n:=by
 unfold cM
 rw [onMs_flat,onMs_flat]
 exact cnt_set (onM1 w) n y hx
theorem cR_set {s:SD} {p:Int} {x:PD} (hx:s.ps[p.toNat - 1]?=some x) (y:PD) (n:Int):cR (setP s p y) n+(queueOf x).count n=cR s n+(queueOf y).count n:=by
 have:=cnt_set queueOf n y hx
 unfold cR runnables setP
 simp only [List.count_append]
 omega
theorem getP_of {s:SD} {p:Int} (h:p.toNat - 1 < s.ps.length):s.ps[p.toNat - 1]?=some (getP s p):=by
 unfold getP; rw [List.getD_eq_getElem?_getD,List.getElem?_eq_getElem h]; rfl
theorem getG_of {s:SD} {p:Int} (h:p.toNat - 1 < s.gs.length):s.gs[p.toNat - 1]?=some (getG s p):=by
 unfold getG; rw [List.getD_eq_getElem?_getD,List.getElem?_eq_getElem h]; rfl
theorem getM_of {s:SD} {p:Int} (h:p.toNat - 1 < s.ms.length):s.ms[p.toNat - 1]?=some (getM s p):=by
 unfold getM; rw [List.getD_eq_getElem?_getD,List.getElem?_eq_getElem h]; rfl
theorem queue_count (x:PD) (n:Int):(queueOf x).count n=(if x.nx≠0/\x.nx=n then 1 else 0)+(listR x.r).count n:=by
 unfold queueOf
 by_cases h:x.nx=0
 ·simp [h]
 ·by_cases h2:x.nx=n
  ·subst h2; simp [h]; omega
  ·simp [h,h2]
theorem lay_ring {r:RD} (hr:mayR r=true) {g:Int} (hg:1<=g) :
  ((listR r).length < 8->mayR (atR r.h (listR r ++ [g]))=true/\listR (atR r.h (listR r ++ [g]))=listR r ++ [g]) /\
  (¬ (listR r).length < 8->mayR (atR ((r.h+4) % 8) ((listR r).drop 4))=true/\listR (atR ((r.h+4) % 8) ((listR r).drop 4))=(listR r).drop 4):=by
 obtain ⟨h0,h1⟩:=mayR_h hr
 have hp:=listR_pos hr
 constructor
 ·intro hl
  exact mayR_of (atR_is h0 h1 (by simp; omega) (fun x hx=>by
   rcases List.mem_append.1 hx with h|h
   ·exact hp x h
   ·simp at h; omega))
 ·intro hl
  have:=listR_len r
  exact mayR_of (atR_is (by omega) (by omega) (by simp; omega) (fun x hx=>hp x (List.mem_of_mem_drop hx)))
theorem if_swap (n g:Int):(if g=n then 1 else 0:Nat)=if n=g then 1 else 0:=by
 by_cases e:n=g
 ·rw [if_pos e,if_pos e.symm]
 ·rw [if_neg e,if_neg fun h=>e h.symm]
theorem cR_lay {s:SD} {p g:Int} (hp:p.toNat - 1 < s.ps.length) (hr:mayR (getP s p).r=true) (hg:1<=g) (n:Int):cR (layS s p g) n=cR s n+if n=g then 1 else 0:=by
 have hx:=getP_of hp
 obtain ⟨y1,y2⟩:=lay_ring hr hg
 unfold layS
 dsimp only
 by_cases hl:(listR (getP s p).r).length < 8
 ·rw [if_pos hl]
  have:=cR_set hx { getP s p with r:=atR (getP s p).r.h (listR (getP s p).r ++ [g]) } n
  rw [queue_count,queue_count,(y1 hl).2,List.count_append,List.count_singleton] at this
  simp only [beq_iff_eq] at this
  rw [if_swap n g] at this
  omega
 ·rw [if_neg hl]
  have:=cR_set hx { getP s p with r:=atR (((getP s p).r.h+4) % 8) ((listR (getP s p).r).drop 4) } n
  rw [queue_count,queue_count,(y2 hl).2] at this
  have hs:(listR (getP s p).r).count n=((listR (getP s p).r).take 4).count n+((listR (getP s p).r).drop 4).count n:=by
   rw [<- List.count_append,List.take_append_drop]
  dsimp only at this
  unfold cR runnables setP at this ⊢
  simp only [List.count_append,List.count_singleton,beq_iff_eq] at this ⊢
  rw [if_swap n g]
  omega
end Go.Ab

namespace Go.Ab
open Go Go.Proofs
set_option maxRecDepth 100000
theorem upd_row {rs:List (List V)} {k:Nat} {row:List V} (hk:k < rs.length) (g:rs.getD k []=row) (off:Nat) (cs:List V) :
  ∃ rs',rs.set k (setR (rs.getD k []) off cs)=rs'/\rs'.getD k []=setR row off cs/\rs'.length=rs.length/\rs'=rs.set k (setR row off cs) :=
 ⟨_,rfl,by rw [g,List.getD_eq_getElem?_getD,List.getElem?_set_self hk]; rfl,by simp,by rw [g]⟩
theorem map_set {α:Type} (f:α->List V) (l:List α) (i:Nat) (x:α):(l.set i x).map f=(l.map f).set i (f x):=by rw [List.map_set]
def stN (rp rg rq rm rl:List (List V)) (c0 c1 c2 c3:Int) (w0 w1 w2 w3 rt:List (List V)) (ck pr:Int):List V :=
 [.own 1 rp,.own 5 rg,.own 13 rq,.own 2 rm,.own 1 rl,.int .i64 c0,.int .i64 c1,.int .i64 c2,.int .i64 c3,.own 1 w0,.own 1 w1,.own 1 w2,.own 1 w3,.own 2 rt,.int .i64 ck,.int .i64 pr]
def stK (rp rg rq rm rl:List (List V)) (c0 c1 c2 c3:Int) (w0 w1 w2 w3 rt:List (List V)) (ck pr:Int):List V :=
 [.own 1 rp,.own 5 rg,.own 13 rq,.own 2 rm,.sl false 1 rl,.int .i64 c0,.int .i64 c1,.int .i64 c2,.int .i64 c3,.sl false 1 w0,.sl false 1 w1,.sl false 1 w2,.sl false 1 w3,.sl false 2 rt,.int .i64 ck,.int .i64 pr]
def stH (rp rg rq rm rl:List (List V)) (c0 c1 c2 c3:Int) (w0 w1 w2 w3 rt:List (List V)) (ck pr:Int):List V :=
 [.own 1 rp,.own 5 rg,.own 13 rq,.own 2 rm,.own 1 rl,.int .i64 c0,.int .i64 c1,.int .i64 c2,.int .i64 c3,.sl false 1 w0,.sl false 1 w1,.sl false 1 w2,.sl false 1 w3,.sl false 2 rt,.int .i64 ck,.int .i64 pr]
def stR_ (s:SD):List V:=stH (s.prog.map fC) (s.gs.map gC) (s.ps.map pC) (s.ms.map mC) (s.gl.map iC) s.c0 s.c1 s.c2 s.c3 (s.w0.map iC) (s.w1.map iC) (s.w2.map iC) (s.w3.map iC) (s.ts.map tC) s.ck s.pr
end Go.Ab

namespace Go.Ab
open Go Go.Proofs
set_option maxRecDepth 100000
def vI:V->Int
 |.int _ n=>n
 |_=>0
instance:Dec Int:=⟨fun|[a]=>vI a|_=>0⟩
instance:Dec GD:=⟨fun|[a,b,c,d,e]=>⟨vI a,vI b,vI c,vI d,vI e⟩|_=>default⟩
instance:Dec MD:=⟨fun|[a,b]=>⟨vI a,vI b⟩|_=>default⟩
instance:Dec TD:=⟨fun|[a,b]=>⟨vI a,vI b⟩|_=>default⟩
instance:Dec PD:=⟨fun|[a,b,c0,c1,c2,c3,c4,c5,c6,c7,h,n,q]=>⟨vI a,vI b,⟨vI c0,vI c1,vI c2,vI c3,vI c4,vI c5,vI c6,vI c7,vI h,vI n⟩,vI q⟩|_=>default⟩
theorem elG (x:GD):∃ a b c d e,x=⟨a,b,c,d,e⟩/\a=x.fn/\b=x.pc/\c=x.st/\d=x.m/\e=x.sq:=⟨_,_,_,_,_,rfl,rfl,rfl,rfl,rfl,rfl⟩
theorem elP (x:PD):∃ a b c d,x=⟨a,b,c,d⟩/\a=x.m/\b=x.nx/\c=x.r/\d=x.sq:=⟨_,_,_,_,rfl,rfl,rfl,rfl,rfl⟩
theorem elM (x:MD):∃ a b,x=⟨a,b⟩/\a=x.p/\b=x.g:=⟨_,_,rfl,rfl,rfl⟩
theorem elT (x:TD):∃ a b,x=⟨a,b⟩/\a=x.t/\b=x.g:=⟨_,_,rfl,rfl,rfl⟩
inductive Sk where
 |r|o|n
def sk:Bool->Sk
 |true=>.o
 |false=>.r
def ow (b:Sk) (s:Nat) (rows:List (List V)):V :=
 match b with
 |.r=>.sl false s rows
 |.o=>.own s rows
 |.n=>.sl true s rows
def stF (F:Fs) (g w:Sk) (s:SD):List V :=
 [.own 1 (F.m fC s.prog),.own 5 (F.m gC s.gs),.own 13 (F.m pC s.ps),.own 2 (F.m mC s.ms),ow g 1 (F.m iC s.gl),.int .i64 s.c0,.int .i64 s.c1,.int .i64 s.c2,.int .i64 s.c3,ow w 1 (F.m iC s.w0),ow w 1 (F.m iC s.w1),ow w 1 (F.m iC s.w2),ow w 1 (F.m iC s.w3),ow w 2 (F.m tC s.ts),.int .i64 s.ck,.int .i64 s.pr]
def stS (F:Fs) (s:SD):List V :=
 [.sl false 1 (F.m fC s.prog),.sl false 5 (F.m gC s.gs),.sl false 13 (F.m pC s.ps),.sl false 2 (F.m mC s.ms),.sl false 1 (F.m iC s.gl),.int .i64 s.c0,.int .i64 s.c1,.int .i64 s.c2,.int .i64 s.c3,.sl false 1 (F.m iC s.w0),.sl false 1 (F.m iC s.w1),.sl false 1 (F.m iC s.w2),.sl false 1 (F.m iC s.w3),.sl false 2 (F.m tC s.ts),.int .i64 s.ck,.int .i64 s.pr]
instance:ShOk iC:=⟨fun _=>rfl⟩
instance:ShOk jC:=⟨fun _=>rfl⟩
instance:ShOk gC:=⟨fun _=>rfl⟩
instance:ShOk pC:=⟨fun _=>rfl⟩
instance:ShOk mC:=⟨fun _=>rfl⟩
instance:ShOk tC:=⟨fun _=>rfl⟩
instance:ShOk fC:=⟨fun f=>by
 have:=shR_jC f
 simp only [fC,V.shL,V.sh,this]⟩
theorem sh_ow {g:Bool} {s:Nat} {rows:List (List V)} (h:V.shR rows=rows):V.sh (ow (sk g) s rows)=ow (sk g) s rows:=by cases g <;> simp [sk,ow,V.sh,h]
theorem sh_F {F:Fs} (hF:F=fs) (g w:Bool) (s:SD):V.shL (stF F (sk g) (sk w) s)=stF F (sk g) (sk w) s:=by
 simp only [stF,V.shL,V.sh,sh_ow (shM (f:=iC) hF),sh_ow (shM (f:=tC) hF),shM (f:=gC) hF,shM (f:=pC) hF,shM (f:=mC) hF,shM (f:=fC) hF]
theorem sh_O {F:Fs} (hF:F=fs) (w:Bool) (s:SD):V.shL (stF F .o (sk w) s)=stF F .o (sk w) s:=sh_F hF true w s
theorem sh_F' {F:Fs} (hF:F=fs) (s:SD):V.shL (stF F .o .o s)=stF F .o .o s:=sh_F hF true true s
theorem sh_S {F:Fs} (hF:F=fs) (s:SD):V.shL (stS F s)=stS F s:=by
 simp only [stS,V.shL,V.sh,shM (f:=iC) hF,shM (f:=tC) hF,shM (f:=gC) hF,shM (f:=pC) hF,shM (f:=mC) hF,shM (f:=fC) hF]
theorem stS_C {F:Fs} (hF:F=fs) (s:SD):stC s=stS F s:=by subst hF; rfl
theorem stF_O {F:Fs} (hF:F=fs) (s:SD):stO s=stF F .o .o s:=by subst hF; rfl
theorem stF_R {F:Fs} (hF:F=fs) (s:SD):stR_ s=stF F .o .r s:=by subst hF; rfl
end Go.Ab
