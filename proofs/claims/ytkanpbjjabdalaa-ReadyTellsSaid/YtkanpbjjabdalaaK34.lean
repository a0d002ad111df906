/-
  ready: who yields, and a queue that is drained, leave a state that may be; where all others are.
  law13: ReadyDrains.
  Words for law13's laws.
-/
import Derived.Test.YtkanpbjjabdalaaK10
import Derived.Test.YtkanpbjjabdalaaK16
import Derived.Test.YtkanpbjjabdalaaK28
import Derived.Test.YtkanpbjjabdalaaK32
import Derived.Test.YtkanpbjjabdalaaK33
set_option linter.all false
namespace Go.Ab
open Go
structure YieldP (s:SD) (m:Int) (g p:Int):Prop where
 ok:OkS s
 m1:1<=m
 m2:m.toNat<=s.ms.length
 ep:p=(getM s m).p
 eg:g=(getM s m).g
 p0:p≠0
 g0:g≠0
theorem yield_of {s:SD} {m:Int} (h:yieldOk s m=true):YieldP s m (getM s m).g (getM s m).p:=by
 unfold yieldOk at h
 simp only [Bool.and_eq_true,decide_eq_true_eq] at h
 obtain ⟨hm,m1,m2,hp,hg⟩:=h
 exact ⟨(may_ok s).1 hm,m1,m2,rfl,rfl,hp,hg⟩
theorem yield_g {s:SD} {m g p:Int} (h:YieldP s m g p):(1<=g/\g<=s.gs.length)/\(getG s g).st=2:=by
 have hs:=h.ok
 have hM:=getM_of (s:=s) (p:=m) (by have:=h.m1; have:=h.m2; omega)
 have hp0:=h.p0
 have hg0:=h.g0
 have hin:g∈onMs s true:=by
  refine List.mem_map.2 ⟨getM s m,List.mem_filter.2 ⟨List.mem_of_getElem? hM,?_⟩,h.eg.symm⟩
  rw [<- h.ep,<- h.eg]
  simp [hp0,hg0]
 have hz:=hs.inT g hin
 refine ⟨hz,?_⟩
 have h1:=(stands_cnt s g).1 (hs.st g hz.1 hz.2)
 have h2:0 < cM s true g:=cnt_mem.1 hin
 have h3:=h1.2.2.1
 by_cases e:(getG s g).st=2
 ·exact e
 ·rw [if_neg e] at h3; omega
theorem yield_eq {s:SD} {m g p:Int} (h:YieldP s m g p):yieldS s m={ setM (turnS s g 1 0) m ⟨p,0⟩ with gl:=s.gl ++ [g] }:=by
 unfold yieldS; dsimp only; rw [<- h.eg,<- h.ep]
theorem yield_ok {s:SD} {m g p:Int} (h:YieldP s m g p) (hsq:(getG s g).sq<=1000000):OkS (yieldS s m):=by
 obtain ⟨hz,hst⟩:=yield_g h
 have hs:=h.ok
 have e:=yield_eq h
 have m1:=h.m1
 have m2:=h.m2
 have hx:(turnS s g 1 0).ms[m.toNat - 1]?=some (getM s m):=getM_of (s:=s) (by omega)
 have hcM:∀ w n,cM (yieldS s m) w n+(if w=true/\n=g then 1 else 0)=cM s w n:=fun w n=>by
  rw [e]
  have:=cM_set (s:=turnS s g 1 0) hx ⟨p,0⟩ w n
  have e1:(onM1 w ⟨p,0⟩).count n=0:=by unfold onM1; rw [if_neg (fun q=>q.1 rfl)]; rfl
  have e2:(onM1 w (getM s m)).count n=if w=true/\n=g then 1 else 0:=by
   unfold onM1
   rw [<- h.ep,<- h.eg]
   have hp0:=h.p0
   have hg0:=h.g0
   cases w with
   |true =>
    rw [if_pos ⟨hg0,by simp [hp0]⟩,List.count_singleton]
    by_cases q:n=g
    ·simp [q]
    ·simp [q]; exact fun r=>q r.symm
   |false=>rw [if_neg (fun q=>by simp [hp0] at q)]; simp
  rw [e1,e2] at this
  have e3:cM { setM (turnS s g 1 0) m ⟨p,0⟩ with gl:=s.gl ++ [g] } w n=cM (setM (turnS s g 1 0) m ⟨p,0⟩) w n:=rfl
  have e4:cM (turnS s g 1 0) w n=cM s w n:=rfl
  omega
 have hcR:∀ n,cR (yieldS s m) n=cR s n+if n=g then 1 else 0:=fun n=>by
  rw [e]
  unfold cR runnables
  simp only [List.count_append,List.count_singleton,beq_iff_eq]
  rw [if_swap n g]
  simp only [setM,turnS,setG]
  omega
 have hcW:∀ n,cW (yieldS s m) n=cW s n:=fun n=>by rw [e]; rfl
 have hgs:(yieldS s m).gs.length=s.gs.length:=by rw [e]; simp [setM,turnS,setG]
 have hms:(yieldS s m).ms.length=s.ms.length:=by rw [e]; simp [setM,turnS,setG]
 have hgG:∀ n,1<=n->getG (yieldS s m) n=if n=g then { getG s g with st:=1,m:=0,sq:=(getG s g).sq+1 } else getG s n:=fun n hn=>by
  rw [e]; exact getG_set (s:=s) hz.1 (by omega) hn
 have hgM:∀ n,1<=n->getM (yieldS s m) n=if n=m then ⟨p,0⟩ else getM s n:=fun n hn=>by
  rw [e]; exact getM_set (s:=turnS s g 1 0) m1 m2 hn
 refine ok_mk hs (by rw [e]; rfl) hgs (by rw [e]; rfl) hms (by rw [e]; rfl) (by rw [e]; rfl) (by rw [e]; exact hs.ts) (by rw [e]; exact ⟨hs.c0,hs.c1,hs.c2,hs.c3⟩) (by rw [e]; exact turn_gs (s:=s) hs.gs hz.1 (by omega) hsq)
  (fun j x hj=>?_) (fun j x hj=>?_) (fun n hn=>?_) (fun n n1 n2=>?_)
 ·rw [e] at hj
  obtain ⟨a,b⟩:=ring_ok hs hj
  exact ⟨x,hj,rfl,rfl,a,b⟩
 ·rw [e] at hj
  rcases set_get hj with ⟨rfl,_,rfl⟩|⟨_,hj⟩
  ·exact ⟨getM s m,getM_of (by omega),h.ep⟩
  ·exact ⟨x,hj,rfl⟩
 ·rw [hcR,hcW] at hn
  have q1:=hcM true n
  have q2:=hcM false n
  by_cases q:n=g
  ·subst q; exact hz
  ·rw [if_neg (fun r=>q r.2)] at q1 q2
   rw [if_neg q] at hn
   exact in_s hs n (by omega)
 ·have h1:=(stands_cnt s n).1 (hs.st n n1 n2)
  have q1:=hcM true n
  have q2:=hcM false n
  rw [stands_cnt,hcR,hcW,hgG n n1,hms]
  by_cases q:n=g
  ·subst q
   rw [hst] at h1
   simp at h1 q1 q2 ⊢
   omega
  ·simp only [q,and_false,if_false,Nat.add_zero] at q1 q2 ⊢
   rw [q1,q2]
   refine ⟨h1.1,h1.2.1,h1.2.2.1,h1.2.2.2.1,h1.2.2.2.2.1,?_⟩
   have h6:=h1.2.2.2.2.2
   by_cases r:(getG s n).st≠2/\(getG s n).st≠4
   ·rw [if_pos r] at h6 ⊢; exact h6
   ·rw [if_neg r] at h6 ⊢
    refine ⟨h6.1,h6.2.1,?_⟩
    rw [hgM _ h6.1,if_neg]
    ·exact h6.2.2
    ·intro q3
     have:=h6.2.2
     rw [q3,<- h.eg] at this
     exact q this.symm
theorem yield_moved {s:SD} {m g p:Int} (h:YieldP s m g p) (hsq:(getG s g).sq<=1000000) {n:Int} (n1:1<=n) (n2:n<=s.gs.length) (he:(getG s n).st=(getG (yieldS s m) n).st):Moved (placeS s n) (placeS (yieldS s m) n):=by
 obtain ⟨hz,hst⟩:=yield_g h
 have hs:=h.ok
 have ht:=yield_ok h hsq
 have e:=yield_eq h
 have m1:=h.m1
 have m2:=h.m2
 have hgs:(yieldS s m).gs.length=s.gs.length:=by rw [e]; simp [setM,turnS,setG]
 have hgG:getG (yieldS s m) n=if n=g then { getG s g with st:=1,m:=0,sq:=(getG s g).sq+1 } else getG s n:=by
  rw [e]; exact getG_set (s:=s) hz.1 (by omega) n1
 have hne:n≠g:=fun q=>by
  subst q
  rw [hgG,if_pos rfl,hst] at he; cases he
 refine moved_of ((may_ok s).2 hs) ((may_ok _).2 ht) hgs n1 n2 fun k i hk=>⟨k,i,?_,.inl rfl⟩
 rcases puts_mem.1 hk with h'|⟨h',rfl,rfl⟩|⟨h',rfl,rfl⟩|⟨h',rfl,rfl⟩|⟨h',rfl,rfl⟩|⟨h',rfl,rfl⟩|⟨h',rfl,rfl⟩|h'|h'
 ·exact puts_mem.2 (.inl (by rw [e]; exact h'))
 ·exact puts_mem.2 (.inr (.inl ⟨by rw [e]; exact List.mem_append_left _ h',rfl,rfl⟩))
 ·exact puts_mem.2 (.inr (.inr (.inl ⟨by rw [e]; exact h',rfl,rfl⟩)))
 ·exact puts_mem.2 (.inr (.inr (.inr (.inl ⟨by rw [e]; exact h',rfl,rfl⟩))))
 ·exact puts_mem.2 (.inr (.inr (.inr (.inr (.inl ⟨by rw [e]; exact h',rfl,rfl⟩)))))
 ·exact puts_mem.2 (.inr (.inr (.inr (.inr (.inr (.inl ⟨by rw [e]; exact h',rfl,rfl⟩))))))
 ·exact puts_mem.2 (.inr (.inr (.inr (.inr (.inr (.inr (.inl ⟨by rw [e]; exact h',rfl,rfl⟩)))))))
 ·refine puts_mem.2 (.inr (.inr (.inr (.inr (.inr (.inr (.inr (.inl ?_))))))))
  obtain ⟨j,x,h1,h2,h3,h4⟩:=(putsMs_mem _ _ _ _ _).1 h'
  refine (putsMs_mem _ _ _ _ _).2 ⟨j,x,?_,h2,h3,h4⟩
  rw [e]
  have hj:j≠m.toNat - 1:=fun q=>by
   subst q
   rw [getM_of (s:=s) (p:=m) (by omega)] at h1; cases h1
   exact hne (h2.symm.trans h.eg.symm)
  exact (List.getElem?_set_ne (l:=s.ms) (fun q=>hj q.symm)).trans h1
 ·refine puts_mem.2 (.inr (.inr (.inr (.inr (.inr (.inr (.inr (.inr ?_))))))))
  rw [<- mem_atL,atL_Gs] at h' ⊢
  have e2:((yieldS s m).gs.getD (n - 0 - 1).toNat default)=s.gs.getD (n - 0 - 1).toNat default:=by
   rw [show (n - 0 - 1).toNat=n.toNat - 1 by omega]
   exact hgG.trans (if_neg hne)
  rw [hgs,e2]; exact h'
theorem zero_may:mayR zeroR=true/\listR zeroR=[]:=by
 have e:zeroR=atR 0 []:=by decide
 rw [e]; exact mayR_of (atR_is (by omega) (by omega) (by simp) (by simp))
theorem drain_ring:(⟨0,0,0,0,0,0,0,0,0,0⟩ : RD)=zeroR:=rfl
theorem drain_queue (x:PD):queueOf { x with nx:=0,r:=zeroR }=[]:=by unfold queueOf; rw [if_pos rfl,zero_may.2]; rfl
theorem drain_cR {s:SD} {p:Int} (hp:p.toNat - 1 < s.ps.length) (n:Int):cR (drainS s p) n=cR s n:=by
 have:=cR_set (getP_of hp) { getP s p with nx:=0,r:=zeroR } n
 rw [drain_queue] at this
 unfold drainS
 dsimp only
 rw [drain_ring]
 unfold cR runnables setP at this ⊢
 simp only [List.count_append,List.count_nil] at this ⊢
 omega
theorem drain_ok {s:SD} (hs:OkS s) {p:Int} (p1:1<=p) (p2:p<=s.pr):OkS (drainS s p):=by
 obtain ⟨hlt,hx,hr⟩:=P_of hs p1 p2
 have hcR:∀ n,cR (drainS s p) n=cR s n:=drain_cR hlt
 refine ok_mk hs rfl rfl (by simp [drainS,setP]) rfl rfl rfl hs.ts ⟨hs.c0,hs.c1,hs.c2,hs.c3⟩ hs.gs (fun j x hj=>?_) (fun j x hj=>⟨x,hj,rfl⟩) (fun n hn=>?_) (fun n n1 n2=>?_)
 ·rcases set_get (l:=s.ps) hj with ⟨rfl,_,rfl⟩|⟨_,hj⟩
  ·exact ⟨_,hx,rfl,rfl,zero_may.1,.inl (by omega)⟩
  ·obtain ⟨a,b⟩:=ring_ok hs hj
   exact ⟨x,hj,rfl,rfl,a,b⟩
 ·rw [hcR] at hn
  exact in_s hs n hn
 ·have h1:=(stands_cnt s n).1 (hs.st n n1 n2)
  rw [stands_cnt,hcR]
  exact h1
theorem drain_moved {s:SD} (hs:OkS s) {p:Int} (p1:1<=p) (p2:p<=s.pr) {n:Int} (n1:1<=n) (n2:n<=s.gs.length):Moved (placeS s n) (placeS (drainS s p) n):=by
 obtain ⟨hlt,hx,hr⟩:=P_of hs p1 p2
 have ht:=drain_ok hs p1 p2
 refine moved_of ((may_ok s).2 hs) ((may_ok _).2 ht) rfl n1 n2 fun k i hk=>?_
 rcases puts_mem.1 hk with h'|⟨h',rfl,rfl⟩|⟨h',rfl,rfl⟩|⟨h',rfl,rfl⟩|⟨h',rfl,rfl⟩|⟨h',rfl,rfl⟩|⟨h',rfl,rfl⟩|h'|h'
 ·obtain ⟨j,q,h1,rfl,h3⟩:=puts_P.1 h'
  by_cases e:j=p.toNat - 1
  ·subst e
   rw [hx] at h1; cases h1
   have hin:n∈(drainS s p).gl:=by
    refine List.mem_append_right _ ?_
    rcases h3 with ⟨rfl,h4,h5⟩|⟨rfl,h4⟩
    ·rw [<- h4] at h5 ⊢; exact nx_queue h5
    ·exact ring_queue h4
   refine ⟨3,0,puts_mem.2 (.inr (.inl ⟨hin,rfl,rfl⟩)),?_⟩
   rcases h3 with ⟨rfl,_⟩|⟨rfl,_⟩
   ·exact .inr (.inr ⟨rfl,.inr rfl⟩)
   ·exact .inr (.inl ⟨rfl,rfl⟩)
  ·exact ⟨k,_,puts_mem.2 (.inl (puts_P.2 ⟨j,q,(List.getElem?_set_ne (l:=s.ps) (fun q=>e q.symm)).trans h1,rfl,h3⟩)),.inl rfl⟩
 ·exact ⟨3,0,puts_mem.2 (.inr (.inl ⟨List.mem_append_left _ h',rfl,rfl⟩)),.inl rfl⟩
 ·exact ⟨5,0,puts_mem.2 (.inr (.inr (.inl ⟨h',rfl,rfl⟩))),.inl rfl⟩
 ·exact ⟨5,1,puts_mem.2 (.inr (.inr (.inr (.inl ⟨h',rfl,rfl⟩)))),.inl rfl⟩
 ·exact ⟨5,2,puts_mem.2 (.inr (.inr (.inr (.inr (.inl ⟨h',rfl,rfl⟩))))),.inl rfl⟩
 ·exact ⟨5,3,puts_mem.2 (.inr (.inr (.inr (.inr (.inr (.inl ⟨h',rfl,rfl⟩)))))),.inl rfl⟩
 ·exact ⟨6,0,puts_mem.2 (.inr (.inr (.inr (.inr (.inr (.inr (.inl ⟨h',rfl,rfl⟩))))))),.inl rfl⟩
 ·exact ⟨k,i,puts_mem.2 (.inr (.inr (.inr (.inr (.inr (.inr (.inr (.inl h')))))))),.inl rfl⟩
 ·exact ⟨k,i,puts_mem.2 (.inr (.inr (.inr (.inr (.inr (.inr (.inr (.inr h')))))))),.inl rfl⟩
theorem drain_twice {s:SD} {p:Int} (p1:1<=p) (p2:p.toNat<=s.ps.length):drainS (drainS s p) p=drainS s p:=by
 have e:getP (drainS s p) p={ getP s p with nx:=0,r:=zeroR }:=(getP_set (s:=s) p1 p2 p1).trans (if_pos rfl)
 have e2:drainS (drainS s p) p={ setP (drainS s p) p { getP s p with nx:=0,r:=zeroR } with gl:=(drainS s p).gl ++ [] }:=by
  show { setP (drainS s p) p { getP (drainS s p) p with nx:=0,r:=zeroR } with gl:=(drainS s p).gl ++ queueOf (getP (drainS s p) p) }=_
  rw [e,drain_queue]
 rw [e2]
 unfold drainS setP
 simp [List.set_set,drain_ring]
theorem drain_len {s:SD} {p:Int} (hp:p.toNat - 1 < s.ps.length):(runnables (drainS s p)).length=(runnables s).length :=
 (List.perm_iff_count.2 fun n=>drain_cR hp n).length_eq
end Go.Ab

namespace Go.Ab
open Go Go.Proofs
set_option maxRecDepth 100000
variable {P:Program} {F:Fs}
theorem q_Small (hP:P=Try.prog) (hF:F=fs) (s:SD) (hs:Held s) (b:Bool) (hb:b=smallS s):CallsV P 12 [.agg (stS F s)] (.bool b) [.undef] true:=by
 have:=c12 s hs b hb
 rwa [stS_C hF,<- hP] at this
theorem q_rMay (hP:P=Try.prog) (hF:F=fs) (s:SD) (hs:Fit s) (b:Bool) (hb:b=mayS s):CallsV P 23 [.agg (stS F s)] (.bool b) [.undef] true:=by
 have:=c23 s hs b hb
 rwa [stS_C hF,<- hP] at this
theorem q_Same (hP:P=Try.prog) (hF:F=fs) (s t:SD) (hs:Fit s) (b:Bool) (hb:b=decide (s=t)):CallsV P 20 [.agg (stS F s),.agg (stS F t)] (.bool b) [.undef,.undef] true:=by
 have:=c20 s t hs b hb
 rwa [stS_C hF,stS_C hF,<- hP] at this
theorem q_Runnables (hP:P=Try.prog) (hF:F=fs) (s:SD) (hs:Fit s) (l:List Int) (hl:l=runnables s):CallsV P 29 [.agg (stS F s)] (.own 1 (F.m iC l)) [.undef] true:=by
 have:=c29 s hs.ps hs.gl
 rw [stS_C hF,<- hP,<- hl] at this
 subst hF; exact this
theorem q_Place (hP:P=Try.prog) (hF:F=fs) (s:SD) (hs:Fit s) (n:Int) (z:Int×Int) (hz:z=placeS s n):CallsV P 24 [.agg (stS F s),.int .i64 n] (.agg (plC z)) [.undef,.undef] true:=by
 have:=c24 s hs n z hz
 rwa [stS_C hF,<- hP] at this
theorem drain_fit {s:SD} (hs:Fit s) (hm:mayS s=true) {p:Int} (p1:1<=p) (p2:p<=s.pr):Fit (drainS s p):=by
 have ho:=drain_ok ((may_ok s).1 hm) p1 p2
 refine ⟨hs.prog,hs.code,hs.gs,?_,hs.ms,?_,hs.w0,hs.w1,hs.w2,hs.w3,hs.ts⟩
 ·have:=ho.p8; omega
 ·-- each G stands there at most once
  have hr:(runnables (drainS s p)).length=(drainS s p).gs.countP fun x=>decide (x.st=1):=run_many ((may_ok _).2 ho)
  have h1:=List.countP_le_length (p:=fun x:GD=>decide (x.st=1)) (l:=(drainS s p).gs)
  have h2:=ho.g2
  have h3:(drainS s p).gl.length<=(runnables (drainS s p)).length:=by unfold runnables; rw [List.length_append]; omega
  omega
set_option maxHeartbeats 8000000 in
theorem d7 (hP:P=Try.prog) (hF:F=fs) (s:SD) (hs:Held s) (p:Int):CallsV P 7 [.agg (stS F s),.int .i64 p] (.bool true) [.undef,.undef] true:=by
 have kf:=d13 hP hF
 have k1:=q_Small hP hF s hs _ rfl
 cases hb:smallS s with
 |false =>
  rw [hb] at k1
  refine callsV_f hD Try.func7 ok7 hP hF (by simp only [List.map_cons,List.map_nil,V.sh,sh_F hF,sh_O hF,sh_F' hF,sh_S hF]) fun R hQ=>?_
  repeat' (cbv; first|refine .y ?_|refine .n ?_|refine .s (fun hc=>?_) fun hc=>?_|refine .z kf ?_|refine .z k1 ?_|refine .v ?_|refine .r ?_|refine .e fun v hv=>?_|refine .a fun v hv=>?_|refine .d ?_|refine .fa ?_|refine .f1 ?_|refine .u fun vr vn hvr hvn hvl=>?_|fail)
  all_goals (try cbv)
  (refine hQ _ ⟨?_,?_,?_,?_,?_⟩ <;> (try cbv) <;> (repeat' first|exact True.intro|exact rfl|assumption|exact lenU|exact frM|exact FrR.mk rfl|exact FrS.mk rfl|refine ⟨?_,?_⟩|(subst_vars; rfl)|fail))
 |true =>
 rw [hb] at k1
 have fs:=fit_small hb
 have k2:=q_rMay hP hF s fs _ rfl
 cases hm:mayS s with
 |false =>
  rw [hm] at k2
  refine callsV_f hD Try.func7 ok7 hP hF (by simp only [List.map_cons,List.map_nil,V.sh,sh_F hF,sh_O hF,sh_F' hF,sh_S hF]) fun R hQ=>?_
  repeat' (cbv; first|refine .y ?_|refine .n ?_|refine .s (fun hc=>?_) fun hc=>?_|refine .z kf ?_|refine .z k1 ?_|refine .z k2 ?_|refine .v ?_|refine .r ?_|refine .e fun v hv=>?_|refine .a fun v hv=>?_|refine .d ?_|refine .fa ?_|refine .f1 ?_|refine .u fun vr vn hvr hvn hvl=>?_|fail)
  all_goals (try cbv)
  (refine hQ _ ⟨?_,?_,?_,?_,?_⟩ <;> (try cbv) <;> (repeat' first|exact True.intro|exact rfl|assumption|exact lenU|exact frM|exact FrR.mk rfl|exact FrS.mk rfl|refine ⟨?_,?_⟩|(subst_vars; rfl)|fail))
 |true =>
 rw [hm] at k2
 by_cases hc:1<=p/\p<=s.pr
 ·obtain ⟨p1,p2⟩:=hc
  have ho:=(may_ok s).1 hm
  obtain ⟨hlt,-,-⟩:=P_of ho p1 p2
  have hoa:=drain_ok ho p1 p2
  have hma:=(may_ok _).2 hoa
  have hfa:=drain_fit fs hm p1 p2
  have etw:=drain_twice (s:=s) p1 (show p.toNat<=s.ps.length by omega)
  have eln:=drain_len (s:=s) hlt
  have hda:drainOk s p=true:=by unfold drainOk; rw [hm]; simp; exact ⟨p1,p2⟩
  have hdb:drainOk (drainS s p) p=true:=by unfold drainOk; rw [hma]; simp; exact ⟨p1,p2⟩
  obtain ⟨ta,ea⟩ : ∃ t,t=drainS s p:=⟨_,rfl⟩
  rw [<- ea] at hma hfa etw eln hdb
  have k3:=d18t hP hF s ta fs p hda ea
  have k4:=d18t hP hF ta ta hfa p hdb etw.symm
  have k5:=q_Same hP hF ta ta hfa true (by simp)
  obtain ⟨ra,er⟩ : ∃ l,l=runnables ta:=⟨_,rfl⟩
  obtain ⟨rs,es⟩ : ∃ l,l=runnables s:=⟨_,rfl⟩
  have k6:=q_Runnables hP hF ta hfa ra er
  have k7:=q_Runnables hP hF s fs rs es
  have k8:=q_rMay hP hF ta hfa true hma.symm
  obtain ⟨n,hn⟩ : ∃ n,F.n ra=n:=⟨_,rfl⟩
  have hn':F.n rs=n:=by rw [<- hn,hF,er,es]; show ((List.length _:Nat):Int)=(List.length _:Nat); rw [eln]
  clear er es eln etw ea hda hdb hma hfa hoa hlt ho hm fs hb hs
  refine callsV_f hD Try.func7 ok7 hP hF (by simp only [List.map_cons,List.map_nil,V.sh,sh_F hF,sh_O hF,sh_F' hF,sh_S hF]) fun R hQ=>?_
  repeat' (cbv; first|refine .y ?_|refine .n ?_|refine .s (fun hc=>?_) fun hc=>?_|refine .z kf ?_|refine .z k1 ?_|refine .z k2 ?_|refine .z k3 ?_|refine .z k4 ?_|refine .z k5 ?_|refine .z k6 ?_|refine .z k7 ?_|refine .z k8 ?_|refine .v ?_|refine .r ?_|refine .e fun v hv=>?_|refine .a fun v hv=>?_|refine .d ?_|refine .fa ?_|refine .f1 ?_|refine .u fun vr vn hvr hvn hvl=>?_|fail)
  all_goals (try cbv)
  all_goals first
   |(exfalso; omega)
   |(refine hQ _ ⟨?_,?_,?_,?_,?_⟩ <;> (try cbv) <;> (repeat' first|exact True.intro|exact rfl|assumption|exact lenU|exact frM|exact FrR.mk rfl|exact FrS.mk rfl|refine ⟨?_,?_⟩|(subst_vars; rfl)|fail))
 ·have hc':p < 1\/s.pr < p:=by omega
  refine callsV_f hD Try.func7 ok7 hP hF (by simp only [List.map_cons,List.map_nil,V.sh,sh_F hF,sh_O hF,sh_F' hF,sh_S hF]) fun R hQ=>?_
  repeat' (cbv; first|refine .y ?_|refine .n ?_|refine .s (fun hc=>?_) fun hc=>?_|refine .z kf ?_|refine .z k1 ?_|refine .z k2 ?_|refine .v ?_|refine .r ?_|refine .e fun v hv=>?_|refine .a fun v hv=>?_|refine .d ?_|refine .fa ?_|refine .f1 ?_|refine .u fun vr vn hvr hvn hvl=>?_|fail)
  all_goals (try cbv)
  all_goals first
   |(exfalso; omega)
   |(refine hQ _ ⟨?_,?_,?_,?_,?_⟩ <;> (try cbv) <;> (repeat' first|exact True.intro|exact rfl|assumption|exact lenU|exact frM|exact FrR.mk rfl|exact FrS.mk rfl|refine ⟨?_,?_⟩|(subst_vars; rfl)|fail))
end Go.Ab

namespace Go.Ab
open Go Go.Proofs
set_option maxRecDepth 100000
variable {P:Program} {F:Fs}
theorem AppL.f0 {α:Type} {f:α->List V} {l:List α} {bytes:Nat} {K:List (List V)->Nat->Prop} (k:K (F.m f l) (F.l (F.m f l))) (hF:F=fs:=by assumption) (h2:Few F l:=by assumption) (h4:bytes<=100000:=by decide):AppL 0 bytes (fun _=>[]) (fun _=>F.m f l) K:=by
 subst hF
 refine ⟨⟨rfl,?_⟩,?_⟩
 ·have h2:(l.length:Int)<=100000000:=h2.h
  show (0+(l.map f).length) * bytes<=_
  rw [List.length_map]
  have:=Nat.mul_le_mul (show 0+l.length<=200000000 by omega) h4
  omega
 ·show K ([] ++ l.map f) (0+(l.map f).length)
  rw [List.nil_append,Nat.zero_add]; exact k
theorem q_Times (hP:P=Try.prog) (hF:F=fs) (l:List Int) (hl:l.length<=1000000000) (n z:Int) (hz:z=timesL l n):CallsV P 28 [.sl false 1 (F.m iC l),.int .i64 n] (.int .i64 z) [.undef,.undef] true:=by
 have:=c28 l hl n z hz
 subst hF; rwa [<- hP] at this
theorem q_rQueue (hP:P=Try.prog) (hF:F=fs) (s:SD) (hs:Fit s) (p:Int) (hm:mayS s=true) (h1:1<=p) (h2:p<=s.pr) (q:List Int) (hq:q=queueOf (getP s p)):CallsV P 25 [.agg (stS F s),.int .i64 p] (.sl true 1 (F.m iC q)) [.undef,.undef] true:=by
 have:=c25 s hs p
 unfold queueV at this
 rw [if_neg (by rw [hm]; simp; omega),show s.ps.getD (p.toNat - 1) default=getP s p from rfl,<- hq] at this
 rw [stS_C hF,<- hP] at this
 subst hF
 exact this
end Go.Ab
