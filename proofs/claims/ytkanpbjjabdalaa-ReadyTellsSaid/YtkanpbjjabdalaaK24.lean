/-
  A state that may be stays so when one is woken, yields, or a queue is drained; where all others are.
  find: what is picked, plainly.
  find: what each source leaves as it was.
  places.put: what it does to the map, in words of the memory alone.
-/
import Derived.Shelf.Abstract
import Derived.WalkKit
import Derived.OwnWalkIn
import Derived.TacticsInMore
import Derived.Shelf.RegionOpen
import Derived.Maps.AppendAt
import Derived.MapKept
import Derived.Test.YtkanpbjjabdalaaK7
import Derived.Test.YtkanpbjjabdalaaK9
import Derived.Test.YtkanpbjjabdalaaK23
set_option linter.all false
namespace Go.Ab
open Go
theorem ok_mk {s t:SD} (hs:OkS s) (e1:t.prog=s.prog) (e2:t.gs.length=s.gs.length) (e3:t.ps.length=s.ps.length) (e4:t.ms.length=s.ms.length) (e5:t.pr=s.pr) (e6:t.ck=s.ck) (hts:mayT [] t.ts=true)
  (hc:okCt t.c0 t.w0=true/\okCt t.c1 t.w1=true/\okCt t.c2 t.w2=true/\okCt t.c3 t.w3=true) (hgs:∀ x∈t.gs,okG s.prog x=true)
  (hP:∀ (j:Nat) x,t.ps[j]?=some x->∃ y,s.ps[j]?=some y/\x.m=y.m/\x.sq=y.sq/\mayR x.r=true/\((j:Int) < s.pr\/(x.nx=0/\x.r.n<=0)))
  (hM:∀ (j:Nat) x,t.ms[j]?=some x->∃ y,s.ms[j]?=some y/\x.p=y.p)
  (hin:∀ n,0 < cR t n+cW t n+cM t true n+cM t false n->1<=n/\n<=s.gs.length) (hst:∀ n:Int,1<=n->n<=s.gs.length->standsB t n=true):OkS t:=by
 obtain ⟨a1,a2⟩:=holds_keep hs e3 e4 e5 hP hM
 exact {
  prog:=e1 ▸ hs.prog,g1:=e2 ▸ hs.g1,g2:=e2 ▸ hs.g2,p8:=e3 ▸ hs.p8,pr1:=e5 ▸ hs.pr1,pr8:=e5 ▸ hs.pr8,ms:=e4 ▸ hs.ms,ck:=e6 ▸ hs.ck,ts:=hts,
  gs:=fun x hx=>e1 ▸ hgs x hx,hp:=a1,hm:=a2,c0:=hc.1,c1:=hc.2.1,c2:=hc.2.2.1,c3:=hc.2.2.2,
  inR:=fun x hx=>by rw [e2]; exact hin x (by have:=cnt_mem.1 hx; unfold cR; omega)
  inW:=fun x hx=>by rw [e2]; exact hin x (by have:=cnt_mem.1 hx; unfold cW; omega)
  inT:=fun x hx=>by rw [e2]; exact hin x (by have:=cnt_mem.1 hx; unfold cM; omega)
  inF:=fun x hx=>by rw [e2]; exact hin x (by have:=cnt_mem.1 hx; unfold cM; omega)
  st:=fun n h1 h2=>hst n h1 (by rw [<- e2]; exact h2) }
theorem in_s {s:SD} (hs:OkS s) (n:Int) (h:0 < cR s n+cW s n+cM s true n+cM s false n):1<=n/\n<=s.gs.length:=by
 rcases Nat.eq_zero_or_pos (cR s n) with h1|h1
 ·rcases Nat.eq_zero_or_pos (cW s n) with h2|h2
  ·rcases Nat.eq_zero_or_pos (cM s true n) with h3|h3
   ·exact hs.inF n (cnt_mem.2 (show 0 < cM s false n by omega))
   ·exact hs.inT n (cnt_mem.2 h3)
  ·exact hs.inW n (cnt_mem.2 h2)
 ·exact hs.inR n (cnt_mem.2 h1)
theorem P_of {s:SD} (hs:OkS s) {p:Int} (p1:1<=p) (p2:p<=s.pr):p.toNat - 1 < s.ps.length/\s.ps[p.toNat - 1]?=some (getP s p)/\mayR (getP s p).r=true:=by
 have h8:=hs.p8
 have hpr:=hs.pr8
 have hlt:p.toNat - 1 < s.ps.length:=by omega
 have h:=getP_of hlt
 have:=hs.hp _ _ h
 unfold okP at this
 simp only [Bool.and_eq_true] at this
 exact ⟨hlt,h,this.1⟩
theorem ring_ok {s:SD} (hs:OkS s) {j:Nat} {x:PD} (h:s.ps[j]?=some x):mayR x.r=true/\((j:Int) < s.pr\/(x.nx=0/\x.r.n<=0)):=by
 have:=hs.hp j x h
 unfold okP at this
 simp only [Bool.and_eq_true,decide_eq_true_eq] at this
 obtain ⟨hr,hpp⟩:=this
 unfold okPp at hpp
 refine ⟨hr,?_⟩
 rcases hpp.2.2.2.2.2 with h|h
 ·exact .inl h
 ·exact .inr ⟨h.2.1,h.2.2⟩
theorem set_get {α:Type} {l:List α} {i j:Nat} {x y:α} (h:(l.set i x)[j]?=some y):(j=i/\i < l.length/\y=x)\/(j≠i/\l[j]?=some y):=by
 rw [List.getElem?_set] at h
 by_cases e:i=j
 ·subst e
  rw [if_pos rfl] at h
  split at h
  ·rename_i hlt; cases h; exact .inl ⟨rfl,hlt,rfl⟩
  ·cases h
 ·rw [if_neg e] at h; exact .inr ⟨fun q=>e q.symm,h⟩
theorem ind (n x:Int) (hx:x≠0):(if x≠0/\x=n then 1 else 0:Nat)=if n=x then 1 else 0:=by
 by_cases e:n=x
 ·rw [if_pos e,if_pos ⟨hx,e.symm⟩]
 ·rw [if_neg e,if_neg fun h=>e h.2.symm]
structure NextOk (s t:SD) (p g:Int) (r:RD) (gl:List Int):Prop where
 eq:t={ setP s p { getP s p with nx:=g,r:=r } with gl:=gl }
 may:mayR r=true
 ring:∀ y∈listR (getP s p).r,y∈listR r\/y∈gl
 old:(getP s p).nx≠0->(getP s p).nx∈listR r\/(getP s p).nx∈gl
 glob:∀ y∈s.gl,y∈gl
 cnt:∀ n,cR t n=cR s n+if n=g then 1 else 0
theorem next_ok {s:SD} {p g:Int} (p1:1<=p) (hp:p.toNat<=s.ps.length) (hr:mayR (getP s p).r=true) (hg:1<=g) (ho:(getP s p).nx≠0->1<=(getP s p).nx):∃ r gl,NextOk s (nextS s p g) p g r gl:=by
 have hx:=getP_of (s:=s) (p:=p) (by omega)
 have hset:getP (setP s p { getP s p with nx:=g }) p={ getP s p with nx:=g }:=by rw [getP_set p1 hp p1,if_pos rfl]
 unfold nextS
 dsimp only
 by_cases h0:(getP s p).nx=0
 ·rw [if_pos h0]
  refine ⟨(getP s p).r,s.gl,rfl,hr,fun y hy=>.inl hy,fun h=>absurd h0 h,fun y hy=>hy,fun n=>?_⟩
  have:=cR_set hx { getP s p with nx:=g } n
  rw [queue_count,queue_count] at this
  dsimp only at this ⊢
  rw [if_neg (show ¬ ((getP s p).nx≠0/\(getP s p).nx=n) from fun h=>h.1 h0),ind n g (by omega)] at this
  omega
 ·rw [if_neg h0]
  have ho1:=ho h0
  obtain ⟨y1,y2⟩:=lay_ring hr ho1
  have hc:∀ n,cR (layS (setP s p { getP s p with nx:=g }) p (getP s p).nx) n=cR s n+if n=g then 1 else 0:=fun n=>by
   have:=cR_set hx { getP s p with nx:=g } n
   rw [queue_count,queue_count] at this
   rw [cR_lay (by simp only [setP,List.length_set]; omega) (by rw [hset]; exact hr) ho1]
   dsimp only at this ⊢
   rw [ind n _ h0,ind n g (by omega)] at this
   omega
  have hss:∀ x y:PD,setP (setP s p x) p y=setP s p y:=fun x y=>by simp [setP,List.set_set]
  by_cases hl:(listR (getP s p).r).length < 8
  ·refine ⟨_,s.gl,?_,(y1 hl).1,fun y hy=>.inl (by rw [(y1 hl).2]; simp [hy]),fun _=>.inl (by rw [(y1 hl).2]; simp),fun y hy=>hy,hc⟩
   unfold layS
   dsimp only
   rw [hset,if_pos hl,hss]; rfl
  ·refine ⟨_,s.gl ++ (listR (getP s p).r).take 4 ++ [(getP s p).nx],?_,(y2 hl).1,fun y hy=>?_,fun _=>.inr (by simp),fun y hy=>by simp [hy],hc⟩
   ·unfold layS
    dsimp only
    rw [hset,if_neg hl,hss]; rfl
   ·rw [(y2 hl).2]
    rw [<- List.take_append_drop 4 (listR (getP s p).r)] at hy
    rcases List.mem_append.1 hy with h|h
    ·exact .inr (by simp [h])
    ·exact .inl h
def Moved (a b:Int×Int):Prop:=a=b\/(a.1=2/\b.1=3)\/(a.1=1/\(b.1=2\/b.1=3))
theorem moved_of {s t:SD} (hs:mayS s=true) (ht:mayS t=true) (hl:t.gs.length=s.gs.length) {n:Int} (n1:1<=n) (n2:n<=s.gs.length)
  (h:∀ k m,(n,k,m)∈puts s->∃ k' m',(n,k',m')∈puts t/\Moved (k,m) (k',m')):Moved (placeS s n) (placeS t n):=by
 rcases hz:placeS s n with ⟨k,m⟩
 obtain ⟨k',m',h1,h2⟩:=h k m ((place_of hs n1 n2).1 hz)
 rw [(place_of ht n1 (by rw [hl]; exact n2)).2 h1]
 exact h2
theorem cW_out (s:SD) (g n:Int):cW (outS s g) n=if n=g then 0 else cW s n:=by
 have hf:∀ l:List Int,(l.filter fun x=>decide (x≠g)).count n=if n=g then 0 else l.count n:=fun l=>by
  by_cases e:n=g
  ·subst e
   rw [if_pos rfl]
   exact List.count_eq_zero.2 (by simp)
  ·rw [if_neg e,List.count_filter (by simpa using e)]
 have ht:∀ l:List TD,((l.filter fun t=>decide (t.g≠g)).map (·.g)).count n=if n=g then 0 else (l.map (·.g)).count n:=fun l=>by
  rw [<- hf,List.filter_map]; rfl
 unfold cW waiters outS
 simp only [List.count_append,hf,ht]
 split <;> omega
theorem okCt_sub {c:Int} {l:List Int} (h:okCt c l=true) (f:Int->Bool):okCt c (l.filter f)=true:=by
 unfold okCt at *
 simp only [decide_eq_true_eq] at *
 have:=List.length_filter_le f l
 omega
theorem okG_turn {prog:List (List ID)} {x:GD} (h:okG prog x=true) (hsq:x.sq<=1000000) (st m:Int):okG prog { x with st:=st,m:=m,sq:=x.sq+1 }=true:=by
 unfold okG at *
 simp only [Bool.and_eq_true,decide_eq_true_eq] at *
 refine ⟨?_,h.2⟩
 omega
theorem turn_gs {s:SD} {g st m:Int} (hg:∀ x∈s.gs,okG s.prog x=true) (g1:1<=g) (g2:g.toNat<=s.gs.length) (hsq:(getG s g).sq<=1000000):∀ x∈(turnS s g st m).gs,okG s.prog x=true:=by
 intro x hx
 unfold turnS setG at hx
 rcases List.mem_or_eq_of_mem_set hx with h|h
 ·exact hg x h
 ·rw [h]
  exact okG_turn (hg _ (List.mem_of_getElem? (getG_of (s:=s) (p:=g) (by omega)))) hsq st m
theorem wake_ok {s:SD} (hs:OkS s) {p g:Int} (p1:1<=p) (p2:p<=s.pr) (g1:1<=g) (g2:g.toNat<=s.gs.length) (hst:(getG s g).st=3) (hsq:(getG s g).sq<=1000000) :
  OkS (wakeS s p g)/\∃ r gl,NextOk (turnS (outS s g) g 1 0) (wakeS s p g) p g r gl:=by
 obtain ⟨hlt,hxp,hr⟩:=P_of hs p1 p2
 have h8:=hs.p8
 have ho:(getP s p).nx≠0->1<=(getP s p).nx:=fun h=>by
  refine (hs.inR (getP s p).nx (List.mem_append_left _ (List.mem_flatMap.2 ⟨getP s p,List.mem_of_getElem? hxp,?_⟩))).1
  unfold queueOf; rw [if_neg h]; simp
 obtain ⟨r,gl,hN⟩:=next_ok (s:=turnS (outS s g) g 1 0) (p:=p) (g:=g) p1 (show p.toNat<=s.ps.length by omega) hr g1 ho
 refine ⟨?_,r,gl,hN⟩
 have hN':NextOk (turnS (outS s g) g 1 0) (wakeS s p g) p g r gl:=hN
 have heq:=hN'.eq
 have hcR:∀ n,cR (wakeS s p g) n=cR s n+if n=g then 1 else 0:=hN'.cnt
 have hcW:∀ n,cW (wakeS s p g) n=if n=g then 0 else cW s n:=fun n=>by rw [heq]; exact cW_out s g n
 have hcM:∀ w n,cM (wakeS s p g) w n=cM s w n:=fun w n=>by rw [heq]; rfl
 have hgG:∀ n,1<=n->getG (wakeS s p g) n=if n=g then { getG s g with st:=1,m:=0,sq:=(getG s g).sq+1 } else getG s n:=fun n hn=>by
  rw [heq]; exact getG_set (s:=outS s g) g1 g2 hn
 have hgM:∀ n,getM (wakeS s p g) n=getM s n:=fun n=>by rw [heq]; rfl
 have hml:(wakeS s p g).ms.length=s.ms.length:=by rw [heq]; rfl
 refine ok_mk hs (by rw [heq]; rfl) (by rw [heq]; simp [setP,turnS,setG,outS]) (by rw [heq]; simp [setP,turnS,setG,outS]) hml (by rw [heq]; rfl) (by rw [heq]; rfl) (by rw [heq]; exact mayT_filter hs.ts _)
  (by rw [heq]; exact ⟨okCt_sub hs.c0 _,okCt_sub hs.c1 _,okCt_sub hs.c2 _,okCt_sub hs.c3 _⟩) (by rw [heq]; exact turn_gs (s:=outS s g) hs.gs g1 g2 hsq) (fun j x hx=>?_) (fun j x hx=>by rw [heq] at hx; exact ⟨x,hx,rfl⟩) (fun n hn=>?_) (fun n n1 n2=>?_)
 ·rw [heq] at hx
  rcases set_get hx with ⟨rfl,_,rfl⟩|⟨hne,hx⟩
  ·exact ⟨getP s p,hxp,rfl,rfl,hN'.may,.inl (by omega)⟩
  ·exact ⟨x,hx,rfl,rfl,ring_ok hs hx⟩
 ·rw [hcR,hcW,hcM,hcM] at hn
  by_cases e:n=g
  ·subst e; omega
  ·rw [if_neg e,if_neg e] at hn; exact in_s hs n (by omega)
 ·have h1:=(stands_cnt s n).1 (hs.st n n1 n2)
  rw [stands_cnt,hcR,hcW,hcM,hcM,hgG n n1,hgM,hml]
  by_cases e:n=g
  ·subst e
   rw [hst] at h1
   simp only [if_true]
   simp at h1 ⊢
   omega
  ·rw [if_neg e,if_neg e,if_neg e]; exact h1
theorem wake_moved {s:SD} (hs:OkS s) {p g:Int} (p1:1<=p) (p2:p<=s.pr) (g1:1<=g) (g2:g.toNat<=s.gs.length) (hst:(getG s g).st=3) (hsq:(getG s g).sq<=1000000) {n:Int} (n1:1<=n) (n2:n<=s.gs.length)
  (he:(getG s n).st=(getG (wakeS s p g) n).st):Moved (placeS s n) (placeS (wakeS s p g) n):=by
 obtain ⟨ht,r,gl,hN⟩:=wake_ok hs p1 p2 g1 g2 hst hsq
 obtain ⟨hlt,hxp,hr⟩:=P_of hs p1 p2
 have heq:=hN.eq
 have hne:n≠g:=fun e=>by
  subst e
  have:getG (wakeS s p n) n={ getG s n with st:=1,m:=0,sq:=(getG s n).sq+1 }:=by
   rw [heq]; exact (getG_set (s:=outS s n) g1 g2 n1).trans (if_pos rfl)
  rw [this,hst] at he; cases he
 refine moved_of ((may_ok s).2 hs) ((may_ok _).2 ht) (by rw [heq]; simp [setP,turnS,setG,outS]) n1 n2 fun k m hk=>?_
 have hx2:(wakeS s p g).ps[p.toNat - 1]?=some { getP s p with nx:=g,r:=r }:=by
  rw [heq]
  exact List.getElem?_set_self (l:=s.ps) (by omega)
 have hgl:(wakeS s p g).gl=gl:=by rw [heq]
 rcases puts_mem.1 hk with h|⟨h,rfl,rfl⟩|⟨h,rfl,rfl⟩|⟨h,rfl,rfl⟩|⟨h,rfl,rfl⟩|⟨h,rfl,rfl⟩|⟨h,rfl,rfl⟩|h|h
 ·obtain ⟨j,q,h1,rfl,h3⟩:=puts_P.1 h
  by_cases e:j=p.toNat - 1
  ·subst e
   rw [hxp] at h1; cases h1
   rcases h3 with ⟨rfl,h4,h5⟩|⟨rfl,h4⟩
   ·rcases hN.old (by rw [show (getP (turnS (outS s g) g 1 0) p)=getP s p from rfl,h4]; exact h5) with h6|h6
    ·rw [show (getP (turnS (outS s g) g 1 0) p)=getP s p from rfl,h4] at h6
     exact ⟨2,_,puts_mem.2 (.inl (puts_P.2 ⟨_,_,hx2,rfl,.inr ⟨rfl,h6⟩⟩)),.inr (.inr ⟨rfl,.inl rfl⟩)⟩
    ·rw [show (getP (turnS (outS s g) g 1 0) p)=getP s p from rfl,h4] at h6
     exact ⟨3,0,puts_mem.2 (.inr (.inl ⟨by rw [hgl]; exact h6,rfl,rfl⟩)),.inr (.inr ⟨rfl,.inr rfl⟩)⟩
   ·rcases hN.ring n h4 with h6|h6
    ·exact ⟨2,_,puts_mem.2 (.inl (puts_P.2 ⟨_,_,hx2,rfl,.inr ⟨rfl,h6⟩⟩)),.inl rfl⟩
    ·exact ⟨3,0,puts_mem.2 (.inr (.inl ⟨by rw [hgl]; exact h6,rfl,rfl⟩)),.inr (.inl ⟨rfl,rfl⟩)⟩
  ·refine ⟨k,_,puts_mem.2 (.inl (puts_P.2 ⟨j,q,?_,rfl,h3⟩)),.inl rfl⟩
   rw [heq]
   exact (List.getElem?_set_ne (l:=s.ps) (fun q=>e q.symm)).trans h1
 ·exact ⟨3,0,puts_mem.2 (.inr (.inl ⟨by rw [hgl]; exact hN.glob n h,rfl,rfl⟩)),.inl rfl⟩
 ·exact ⟨5,0,puts_mem.2 (.inr (.inr (.inl ⟨by rw [heq]; exact List.mem_filter.2 ⟨h,by simpa using hne⟩,rfl,rfl⟩))),.inl rfl⟩
 ·exact ⟨5,1,puts_mem.2 (.inr (.inr (.inr (.inl ⟨by rw [heq]; exact List.mem_filter.2 ⟨h,by simpa using hne⟩,rfl,rfl⟩)))),.inl rfl⟩
 ·exact ⟨5,2,puts_mem.2 (.inr (.inr (.inr (.inr (.inl ⟨by rw [heq]; exact List.mem_filter.2 ⟨h,by simpa using hne⟩,rfl,rfl⟩))))),.inl rfl⟩
 ·exact ⟨5,3,puts_mem.2 (.inr (.inr (.inr (.inr (.inr (.inl ⟨by rw [heq]; exact List.mem_filter.2 ⟨h,by simpa using hne⟩,rfl,rfl⟩)))))),.inl rfl⟩
 ·refine ⟨6,0,puts_mem.2 (.inr (.inr (.inr (.inr (.inr (.inr (.inl ⟨?_,rfl,rfl⟩))))))),.inl rfl⟩
  obtain ⟨t,h1,h2⟩:=List.mem_map.1 h
  rw [heq]
  exact List.mem_map.2 ⟨t,List.mem_filter.2 ⟨h1,by simpa [h2] using hne⟩,h2⟩
 ·refine ⟨k,m,puts_mem.2 (.inr (.inr (.inr (.inr (.inr (.inr (.inr (.inl ?_)))))))),.inl rfl⟩
  rw [heq]; exact h
 ·refine ⟨k,m,puts_mem.2 (.inr (.inr (.inr (.inr (.inr (.inr (.inr (.inr ?_)))))))),.inl rfl⟩
  rw [<- mem_atL,atL_Gs] at h ⊢
  have e1:(wakeS s p g).gs.length=s.gs.length:=by rw [heq]; simp [setP,turnS,setG,outS]
  have e2:((wakeS s p g).gs.getD (n - 0 - 1).toNat default).st=(s.gs.getD (n - 0 - 1).toNat default).st:=by
   rw [show (n - 0 - 1).toNat=n.toNat - 1 by omega]
   exact he.symm
  rw [e1,e2]; exact h
end Go.Ab

namespace Go.Ab
open Go
def zeroR:RD:=⟨0,0,0,0,0,0,0,0,0,0⟩
def halfN (l:List Int):Nat:=l.length - l.length / 2
end Go.Ab

namespace Go.Ab
open Go
structure SrcP (s t:SD) (p z:Int):Prop where
 prog:t.prog=s.prog
 gs:t.gs=s.gs
 ms:t.ms=s.ms
 pl:t.ps.length=s.ps.length
 gl:t.gl.length<=s.gl.length
 ws:t.w0=s.w0/\t.w1=s.w1/\t.w2=s.w2/\t.w3=s.w3/\t.ts=s.ts
 m:(getP t p).m=(getP s p).m
 zin:z≠0->z∈runnables s
theorem nx_queue {x:PD} (h:x.nx≠0):x.nx∈queueOf x:=by unfold queueOf; rw [if_neg h]; simp
theorem ring_queue {x:PD} {z:Int} (h:z∈listR x.r):z∈queueOf x:=by unfold queueOf; simp [h]
end Go.Ab

namespace Go.Proofs
open Go.RowKit Go.Shelf Go.Ab Go.MapKept
attribute [local go_sem] Oper.semAt_some
theorem t_map:Try.prog.underlying 98=some (.map 3 100):=by kernel_rfl
theorem t_int:Try.prog.underlying 3=some (.int .i64):=by kernel_rfl
theorem t_sl:Try.prog.underlying 100=some (.slice 45):=by kernel_rfl
theorem t_zero:(Try.prog.info? 100).map (·.zero)=some (some (.slice none 0 0)):=by kernel_rfl
theorem zero_sl (w:World):(zeroValue 100).run Try.prog w=.ok (.slice none 0 0) w:=by
 have h:=t_zero
 cases hi:Try.prog.info? 100 with
 |none=>rw [hi] at h; cases h
 |some i =>
  rw [hi] at h
  simp only [Option.map_some,Option.some.injEq] at h
  simp [zeroValue,typeInfo,hi,h,Result.andThen]
theorem findNow_none {g:Int}:∀ (l:List MapEntry) (i:Nat),(∀ e∈l,∃ m,e.key=.int .i64 m)->(∀ e∈l,e.key≠.int .i64 g)->Instr.findNow (.int .i64) (.int .i64 g) l i=some none:=fun l i h1 h2=>by
 have hik:IsKey (.int .i64) (.int .i64 g):=by exact (rfl:IntKind.i64=IntKind.i64)
 rcases find_first hik l i (fun x hx=>by obtain ⟨m,e⟩:=h1 x hx; rw [e]; exact (rfl:IntKind.i64=IntKind.i64)) with ⟨f1,f2⟩|⟨q,en,f1,f2,f3,f4⟩
 ·exact f1
 ·exact absurd f3 (h2 en (List.mem_of_getElem? f2))
theorem zc_size (n:Nat):(Builtin.zeroCells #[Value.int IntKind.i64 0,Value.int IntKind.i64 0] n).size=n * 2:=by
 rw [size_zeroCells]; rfl
set_option maxRecDepth 100000 in
set_option maxHeartbeats 1000000 in
theorem put_new (w:World) (b clock:Nat) (ents:Array MapEntry) (g k n:Int) (hb:w.heap[b]?=some (.map ents clock)) (hk:∀ e∈ents.toList,∃ m,e.key=.int .i64 m) (hn:∀ e∈ents.toList,e.key≠.int .i64 g) :
  Calls Try.prog 109 #[.map (some b),.int .i64 g,.int .i64 k,.int .i64 n] w fun e w'=>(∃ v,e=.returned v)/\∃ (c cap:Nat) (cur:Array Value) (t:TypeId),
   w.heap.size<=c/\c≠b/\1<=cap/\cap<=maxLen/\w'.heap[c]?=some (.cells cur t (0,0))/\cur.size=cap * 2/\cur[0]?=some (.int .i64 k)/\cur[1]?=some (.int .i64 n) /\
   w'.heap[b]?=some (.map (ents.push { key:=.int .i64 g,val:=.slice (some ⟨c,0,none⟩) 1 cap,born:=clock }) (clock+1)) /\
   w'.os=w.os/\w'.output=w.output/\w'.tape=w.tape/\w.heap.size<=w'.heap.size/\∀ i,i < w.heap.size->i≠b->w'.heap[i]?=w.heap[i]?:=by
 have hbs:b < w.heap.size:=(Array.getElem?_eq_some_iff.1 hb).1
 rw [<- callsIn_wide (n:=3)]
 refine callsIn_of_wp Try.func109 rfl trivial ?_ rfl
 simp only [Try.ntmps109,List.size_toArray,List.length_cons,List.length_nil,Nat.reduceAdd,Nat.reduceSub,Array.replicate_succ,Array.replicate_zero,List.push_toArray,List.append_toArray,List.nil_append,List.cons_append]
 gi_wp2
 have hik:IsKey (.int .i64) (.int .i64 g):=by exact (rfl:IntKind.i64=IntKind.i64)
 have hlook:(Instr.lookup 98 (.map (some b)) (.int .i64 g) false).run Try.prog w=.ok (.slice none 0 0) w:=by
  simp [Instr.lookup,run_underlying t_map,MapKept.run_getObj_map hb,MapKept.run_checkKey t_int hik,MapKept.run_findKey t_int (findNow_none ents.toList 0 hk hn),zero_sl,Result.andThen]
 rw [hlook]
 simp only [Result.andThen]
 gi_wp2
 have hc1:1<=grownCap w 1 0 45:=grownCap_ge w 1 0 45
 have hc2:grownCap w 1 0 45<=maxLen:=grownCap_le_maxLen w 1 0 45 (by simp [maxLen])
 have hcd:(Question.appendCap 1 0 45).cut (w.tape w.drawn (Question.appendCap 1 0 45))=grownCap w 1 0 45:=rfl
 rw [hcd]
 generalize grownCap w 1 0 45=cap at hc1 hc2
 clear hcd
 obtain ⟨cur,hcur⟩ : ∃ cur,cur=#[Value.int IntKind.i64 k,Value.int IntKind.i64 n] ++ Builtin.zeroCells #[Value.int IntKind.i64 0,Value.int IntKind.i64 0] (cap - 1):=⟨_,rfl⟩
 rw [<- hcur]
 have hsz:cur.size=cap * 2:=by rw [hcur,Array.size_append,zc_size]; simp; omega
 have hx0:cur[0]?=some (.int .i64 k):=by rw [hcur]; simp [Array.getElem?_append]
 have hx1:cur[1]?=some (.int .i64 n):=by rw [hcur]; simp [Array.getElem?_append]
 clear hcur
 obtain ⟨w1,hw1⟩ : ∃ w1,w1=((w.alloc (Obj.cells #[Value.int IntKind.i64 k,Value.int IntKind.i64 n] 45)).alloc (Obj.cells cur 45)).drew:=⟨_,rfl⟩
 rw [<- hw1]
 have g0:w1.heap=(w.heap.push (Obj.cells #[Value.int IntKind.i64 k,Value.int IntKind.i64 n] 45)).push (Obj.cells cur 45):=by rw [hw1]; rfl
 have g1:w1.heap[b]?=some (.map ents clock):=by
  rw [g0,Array.getElem?_push_lt (by simp; omega),Array.getElem_push_lt hbs]
  rw [Array.getElem?_eq_getElem hbs] at hb; exact hb
 have g2:w1.heap[w.heap.size+1]?=some (.cells cur 45 (0,0)):=by
  rw [g0,show w.heap.size+1=(w.heap.push (Obj.cells #[Value.int IntKind.i64 k,Value.int IntKind.i64 n] 45)).size by simp]
  exact Array.getElem?_push_size
 have hupd:(Instr.mapUpdate 98 (.map (some b)) (.int .i64 g) (.slice (some ⟨w.heap.size+1,0,none⟩) 1 cap)).run Try.prog w1=.ok () { w1 with heap:=w1.heap.setIfInBounds b (.map (ents.push { key:=.int .i64 g,val:=.slice (some ⟨w.heap.size+1,0,none⟩) 1 cap,born:=clock }) (clock+1)) }:=by
  simp [Instr.mapUpdate,run_underlying t_map,MapKept.run_getObj_map g1,MapKept.run_checkKey t_int hik,MapKept.run_findKey t_int (findNow_none ents.toList 0 hk hn),MapKept.run_setObj_map _ g1,Result.andThen]
 rw [hupd]
 simp only [Result.andThen]
 gi_wp2
 first
  |go_ret
  |go_end0
 have hset:=MapKept.heap_set (o':=.map (ents.push { key:=.int .i64 g,val:=.slice (some ⟨w.heap.size+1,0,none⟩) 1 cap,born:=clock }) (clock+1)) g1
 have hold:∀ i,i < w.heap.size->w1.heap[i]?=w.heap[i]?:=fun i hi=>by
  rw [g0,Array.getElem?_push_lt (by simp; omega),Array.getElem_push_lt hi,Array.getElem?_eq_getElem hi]
 subst hw1
 refine ⟨⟨_,rfl⟩,w.heap.size+1,cap,cur,45,by omega,by omega,hc1,hc2,(hset.2 _ (by omega)).trans g2,hsz,hx0,hx1,hset.1,rfl,rfl,rfl,?_,fun i hi hne=>(hset.2 i hne).trans (hold i hi)⟩
 show w.heap.size<=(Array.setIfInBounds _ _ _).size
 rw [Array.size_setIfInBounds,g0]; simp; omega
theorem findNow_some {g:Int} {ents:Array MapEntry} {i:Nat} {e:MapEntry} (h1:∀ e∈ents.toList,∃ m,e.key=.int .i64 m) (he:ents[i]?=some e) (hk:e.key=.int .i64 g) (hf:∀ j e',j < i->ents[j]?=some e'->e'.key≠.int .i64 g) :
  Instr.findNow (.int .i64) (.int .i64 g) ents.toList 0=some (some (i,e.val)):=by
 have hik:IsKey (.int .i64) (.int .i64 g):=(rfl:IntKind.i64=IntKind.i64)
 rcases find_first hik ents.toList 0 (fun x hx=>by obtain ⟨m,e⟩:=h1 x hx; rw [e]; exact (rfl:IntKind.i64=IntKind.i64)) with ⟨f1,f2⟩|⟨q,en,f1,f2,f3,f4⟩
 ·exact absurd hk (f2 e (List.mem_of_getElem? (by simpa using he)))
 ·have hq:ents[q]?=some en:=by simpa using f2
  have:q=i:=by
   rcases Nat.lt_trichotomy q i with hlt|heq|hlt
   ·exact absurd f3 (hf q en hlt hq)
   ·exact heq
   ·exact absurd hk (f4 i e hlt (by simpa using he))
  subst this
  rw [he] at hq; cases hq
  simpa using f1
end Go.Proofs
