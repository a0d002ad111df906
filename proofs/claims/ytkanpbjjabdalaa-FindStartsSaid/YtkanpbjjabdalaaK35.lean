/-
  find: a G that is taken out of the queues, and runs, leaves a state that may be; where all others are.
  find: what each source takes; what a theft leaves; a G that is started.
  find: a G that is started: out of all queues; all others stand where they stood.
  find: the laws, plainly: who is picked, what a theft leaves, sizes.
-/
import Derived.Test.YtkanpbjjabdalaaK16
import Derived.Test.YtkanpbjjabdalaaK29
set_option linter.all false
namespace Go.Ab
open Go
structure Took (s t:SD) (z:Int):Prop where
  prog:t.prog=s.prog
  gs:t.gs=s.gs
  ms:t.ms=s.ms
  pl:t.ps.length=s.ps.length
  ws:t.w0=s.w0∧t.w1=s.w1∧t.w2=s.w2∧t.w3=s.w3∧t.ts=s.ts
  cs:t.c0=s.c0∧t.c1=s.c1∧t.c2=s.c2∧t.c3=s.c3
  ck:t.ck=s.ck∧t.pr=s.pr
  hP:∀ (j:Nat) x,t.ps[j]?=some x→∃ y,s.ps[j]?=some y∧x.m=y.m∧x.sq=y.sq∧mayR x.r=true∧((j:Int) < s.pr∨(x.nx=0∧x.r.n≤0))
  cnt:∀ n,cR t n+(if n=z then 1 else 0)=cR s n
theorem Took.getP {s t:SD} {z:Int} (h:Took s t z) {p:Int} (hp:p.toNat - 1 < s.ps.length):(getP t p).m=(getP s p).m:=by
  obtain ⟨y,h1,h2,_⟩:=h.hP _ _ (getP_of (s:=t) (p:=p) (by rw [h.pl]; exact hp))
  rw [getP_of hp] at h1
  cases h1; exact h2
structure Looks (s:SD) (p m:Int):Prop where
  ok:OkS s
  p1:1≤p
  p2:p≤s.pr
  em:m=(getP s p).m
  m1:1≤m
  m2:m.toNat≤s.ms.length
  mp:(getM s m).p=p
  g0:(getM s m).g=0
theorem looks_of {s:SD} {p:Int} (h:looksB s p=true):Looks s p (getP s p).m:=by
  unfold looksB at h
  simp only [Bool.and_eq_true,decide_eq_true_eq] at h
  obtain ⟨hm,p1,p2,h1,h2⟩:=h
  have ho:=(may_ok s).1 hm
  obtain ⟨hlt,hx,hr⟩:=P_of ho p1 p2
  have:=ho.hp _ _ hx
  unfold okP at this
  simp only [Bool.and_eq_true,decide_eq_true_eq] at this
  obtain ⟨_,hpp⟩:=this
  unfold okPp at hpp
  obtain ⟨a1,a2,a3,a4,a5,a6⟩:=hpp
  have a5:=a5.resolve_left h1
  refine ⟨ho,p1,p2,rfl,by omega,by omega,?_,h2⟩
  have:(s.ms.getD ((getP s p).m.toNat - 1) ⟨0,0⟩).p=((p.toNat - 1:Nat):Int)+1:=a5
  unfold getM; omega
theorem run_getG {t:SD} {p z n:Int} (z1:1≤z) (z2:z.toNat≤t.gs.length) (hn:1≤n) :
    getG (runS t p z) n=if n=z then { getG t z with st:=2,m:=(getP t p).m,sq:=(getG t z).sq+1 } else getG t n:=by
  unfold runS
  exact getG_set (s:=t) z1 z2 hn
theorem took_ok {s t:SD} {p m z:Int} (hl:Looks s p m) (ht:Took s t z) (hsq:(getG s z).sq≤1000000) :
    (1≤z∧z≤s.gs.length)∧(getG s z).st=1∧OkS (runS t p z):=by
  have hs:=hl.ok
  have h8:=hs.p8
  have hpr:=hs.pr8
  have p1:=hl.p1
  have p2:=hl.p2
  have hc:=ht.cnt z
  rw [if_pos rfl] at hc
  have hz:1≤z∧z≤s.gs.length:=in_s hs z (by omega)
  have h1:=(stands_cnt s z).1 (hs.st z hz.1 hz.2)
  have hst:(getG s z).st=1:=by
    have:=h1.2.1
    by_cases e:(getG s z).st=1
    · exact e
    · rw [if_neg e] at this; omega
  refine ⟨hz,hst,?_⟩
  have em:(getP t p).m=m:=by rw [ht.getP (by omega),hl.em]
  have eM:∀ n,getM t n=getM s n:=fun n=>by unfold getM; rw [ht.ms]
  have eG:∀ n,getG t n=getG s n:=fun n=>by unfold getG; rw [ht.gs]
  have m1:=hl.m1
  have m2:=hl.m2
  have hx:t.ms[m.toNat - 1]?=some (getM s m):=by rw [ht.ms]; exact getM_of (by omega)
  have e:runS t p z=setM (turnS t z 2 m) m ⟨(getM s m).p,z⟩:=by unfold runS; rw [em]; dsimp only; rw [eM]
  have hcM:∀ w n,cM (runS t p z) w n=cM s w n+(if w=true∧n=z then 1 else 0):=fun w n=>by
    rw [e]
    have:=cM_set (s:=turnS t z 2 m) hx ⟨(getM s m).p,z⟩ w n
    have e0:cM (turnS t z 2 m) w n=cM s w n:=by unfold cM onMs turnS setG; dsimp only; rw [ht.ms]
    have e1:onM1 w (getM s m)=[]:=by unfold onM1; rw [if_neg (fun h=>h.1 hl.g0)]
    have e2:(onM1 w ⟨(getM s m).p,z⟩).count n=if w=true∧n=z then 1 else 0:=by
      unfold onM1
      rw [hl.mp]
      dsimp only
      cases w with
      | true =>
        rw [if_pos ⟨by omega,by simp; omega⟩,List.count_singleton]
        by_cases h:n=z
        · simp [h]
        · simp [h]; exact fun q=>h q.symm
      | false=>rw [if_neg (fun h=>by simp at h; omega)]; simp
    rw [e0,e1,e2] at this
    simpa using this
  have hcR:∀ n,cR (runS t p z) n+(if n=z then 1 else 0)=cR s n:=fun n=>by
    rw [← ht.cnt n,e]; rfl
  have hcW:∀ n,cW (runS t p z) n=cW s n:=fun n=>by
    rw [e]; unfold cW waiters setM turnS setG; dsimp only
    obtain ⟨w0,w1,w2,w3,w4⟩:=ht.ws
    rw [w0,w1,w2,w3,w4]
  have hgs:(runS t p z).gs.length=s.gs.length:=by rw [e]; simp [setM,turnS,setG,ht.gs]
  have hms:(runS t p z).ms.length=s.ms.length:=by rw [e]; simp [setM,turnS,setG,ht.ms]
  obtain ⟨w0,w1,w2,w3,w4⟩:=ht.ws
  obtain ⟨c0,c1,c2,c3⟩:=ht.cs
  refine ok_mk hs (by rw [e]; exact ht.prog) hgs (by rw [e]; exact ht.pl) hms (by rw [e]; exact ht.ck.2) (by rw [e]; exact ht.ck.1) (by rw [e]; show mayT [] t.ts=true; rw [w4]; exact hs.ts)
    (by rw [e]; show okCt t.c0 t.w0=true∧okCt t.c1 t.w1=true∧okCt t.c2 t.w2=true∧okCt t.c3 t.w3=true; rw [w0,w1,w2,w3,c0,c1,c2,c3]; exact ⟨hs.c0,hs.c1,hs.c2,hs.c3⟩) ?_ ?_ ?_ ?_ ?_
  · have:=turn_gs (s:=t) (g:=z) (st:=2) (m:=m) (by rw [ht.gs,ht.prog]; exact hs.gs) hz.1 (by rw [ht.gs]; omega) (by rw [eG]; exact hsq)
    rw [e,← ht.prog]; exact this
  · rw [e]; exact ht.hP
  · intro j x hx'
    rw [e] at hx'
    rcases set_get hx' with ⟨rfl,_,rfl⟩|⟨_,h⟩
    · exact ⟨getM s m,getM_of (by omega),rfl⟩
    · have h:t.ms[j]?=some x:=h
      rw [ht.ms] at h
      exact ⟨x,h,rfl⟩
  · intro n hn
    rw [hcM,hcM,hcW] at hn
    have:=hcR n
    by_cases h:n=z
    · subst h; exact hz
    · rw [if_neg (fun q=>h q.2),if_neg (fun q=>h q.2)] at hn
      rw [if_neg h] at this
      exact in_s hs n (by omega)
  · intro n n1 n2
    have h2:=(stands_cnt s n).1 (hs.st n n1 n2)
    have hr:=hcR n
    rw [stands_cnt,hcW,hcM,hcM,hms,run_getG hz.1 (by rw [ht.gs]; omega) n1,eG,eG,em]
    by_cases h:n=z
    · subst h
      rw [hst] at h2
      rw [if_pos rfl] at hr
      simp only [if_true]
      have gm:getM (runS t p n) m=⟨(getM s m).p,n⟩:=by
        rw [e,getM_set m1 (by show m.toNat≤t.ms.length; rw [ht.ms]; exact m2) m1,if_pos rfl]
      rw [gm]
      simp at h2 ⊢
      omega
    · simp only [h,and_false,if_false,Nat.add_zero] at hr ⊢
      rw [hr]
      refine ⟨h2.1,h2.2.1,h2.2.2.1,h2.2.2.2.1,h2.2.2.2.2.1,?_⟩
      have h6:=h2.2.2.2.2.2
      by_cases q:(getG s n).st≠2∧(getG s n).st≠4
      · rw [if_pos q] at h6 ⊢; exact h6
      · rw [if_neg q] at h6 ⊢
        refine ⟨h6.1,h6.2.1,?_⟩
        rw [e,getM_set m1 (by show m.toNat≤t.ms.length; rw [ht.ms]; exact m2) h6.1]
        by_cases q2:(getG s n).m=m
        · have:=h6.2.2
          rw [q2,hl.g0] at this
          omega
        · rw [if_neg q2]
          have e3:getM (turnS t z 2 m) (getG s n).m=getM s (getG s n).m:=eM _
          rw [e3]; exact h6.2.2
theorem took_place {s t:SD} {p m z:Int} (hl:Looks s p m) (ht:Took s t z) (hsq:(getG s z).sq≤1000000):placeS (runS t p z) z=(4,m)∧(getG (runS t p z) z).sq=(getG s z).sq+1∧(runS t p z).gs.length=s.gs.length:=by
  obtain ⟨hz,hst,hok⟩:=took_ok hl ht hsq
  have hs:=hl.ok
  have h8:=hs.p8
  have hpr:=hs.pr8
  have p1:=hl.p1
  have p2:=hl.p2
  have m1:=hl.m1
  have m2:=hl.m2
  have em:(getP t p).m=m:=by rw [ht.getP (by omega),hl.em]
  have eM:∀ n,getM t n=getM s n:=fun n=>by unfold getM; rw [ht.ms]
  have e:runS t p z=setM (turnS t z 2 m) m ⟨(getM s m).p,z⟩:=by unfold runS; rw [em]; dsimp only; rw [eM]
  have hgs:(runS t p z).gs.length=s.gs.length:=by rw [e]; simp [setM,turnS,setG,ht.gs]
  refine ⟨?_,?_,hgs⟩
  · refine (place_of ((may_ok _).2 hok) hz.1 (by rw [hgs]; exact hz.2)).2 ?_
    refine puts_mem.2 (.inr (.inr (.inr (.inr (.inr (.inr (.inr (.inl ?_))))))))
    refine (putsMs_mem _ _ _ _ _).2 ⟨m.toNat - 1,⟨(getM s m).p,z⟩,?_,rfl,by omega,by omega,.inl ⟨?_,rfl⟩⟩
    · rw [e]; exact List.getElem?_set_self (by show _ < t.ms.length; rw [ht.ms]; omega)
    · dsimp only; rw [hl.mp]; omega
  · rw [run_getG hz.1 (by rw [ht.gs]; omega) hz.1,if_pos rfl]
    unfold getG; rw [ht.gs]
end Go.Ab

namespace Go.Ab
open Go
theorem hP_set {s:SD} (hs:OkS s) {p:Int} (p1:1≤p) (p2:p≤s.pr) {y:PD} (h1:y.m=(getP s p).m) (h2:y.sq=(getP s p).sq) (h3:mayR y.r=true) :
    ∀ (j:Nat) x,(setP s p y).ps[j]?=some x→∃ y,s.ps[j]?=some y∧x.m=y.m∧x.sq=y.sq∧mayR x.r=true∧((j:Int) < s.pr∨(x.nx=0∧x.r.n≤0)):=by
  obtain ⟨hlt,hx,hr⟩:=P_of hs p1 p2
  intro j x hj
  rcases set_get hj with ⟨rfl,_,rfl⟩|⟨_,h⟩
  · exact ⟨_,hx,h1,h2,h3,.inl (by omega)⟩
  · obtain ⟨a,b⟩:=ring_ok hs h
    exact ⟨x,h,rfl,rfl,a,b⟩
theorem took_set {s:SD} (hs:OkS s) {p z:Int} (p1:1≤p) (p2:p≤s.pr) {y:PD} (h1:y.m=(getP s p).m) (h2:y.sq=(getP s p).sq) (h3:mayR y.r=true)
    (hc:∀ n,(queueOf y).count n+(if n=z then 1 else 0)=(queueOf (getP s p)).count n):Took s (setP s p y) z:=by
  obtain ⟨hlt,hx,hr⟩:=P_of hs p1 p2
  refine ⟨rfl,rfl,rfl,by simp [setP],⟨rfl,rfl,rfl,rfl,rfl⟩,⟨rfl,rfl,rfl,rfl⟩,⟨rfl,rfl⟩,hP_set hs p1 p2 h1 h2 h3,fun n=>?_⟩
  have:=cR_set hx y n
  have:=hc n
  omega
theorem next_took {s:SD} (hs:OkS s) {p:Int} (p1:1≤p) (p2:p≤s.pr) (h:(nextF s p).2≠0):Took s (nextF s p).1 (nextF s p).2:=by
  obtain ⟨hlt,hx,hr⟩:=P_of hs p1 p2
  have h0:(getP s p).nx≠0:=h
  show Took s (setP s p { getP s p with nx:=0 }) (getP s p).nx
  refine took_set hs p1 p2 rfl rfl hr fun n=>?_
  rw [queue_count,queue_count]
  dsimp only
  rw [if_neg (fun q=>q.1 rfl)]
  by_cases e:n=(getP s p).nx
  · rw [if_pos e,if_pos ⟨h0,e.symm⟩]; omega
  · rw [if_neg e,if_neg (fun q=>e q.2.symm)]; omega
theorem local_took {s:SD} (hs:OkS s) {p:Int} (p1:1≤p) (p2:p≤s.pr) (h:(localF s p).2≠0):Took s (localF s p).1 (localF s p).2:=by
  obtain ⟨hlt,hx,hr⟩:=P_of hs p1 p2
  obtain ⟨h0,h1⟩:=mayR_h hr
  have hpos:=listR_pos hr
  have hle:=listR_len (getP s p).r
  unfold localF at h ⊢
  cases he:listR (getP s p).r with
  | nil=>rw [he] at h; exact absurd rfl h
  | cons g l =>
    rw [he] at hpos hle
    obtain ⟨a,b⟩:=mayR_of (atR_is (h:=((getP s p).r.h+1) % 8) (l:=l) (by omega) (by omega) (by simp at hle; omega) (fun x hx=>hpos x (by simp [hx])))
    refine took_set hs p1 p2 rfl rfl a fun n=>?_
    rw [queue_count,queue_count,he]
    dsimp only
    rw [b,List.count_cons]
    simp only [beq_iff_eq]
    rw [if_swap n g]
    omega
theorem global_took {s:SD} (hs:OkS s) (h:(globalF s).2≠0):Took s (globalF s).1 (globalF s).2:=by
  unfold globalF at h ⊢
  cases he:s.gl with
  | nil=>rw [he] at h; exact absurd rfl h
  | cons g l =>
    refine ⟨rfl,rfl,rfl,rfl,⟨rfl,rfl,rfl,rfl,rfl⟩,⟨rfl,rfl,rfl,rfl⟩,⟨rfl,rfl⟩,fun j x hx=>?_,fun n=>?_⟩
    · obtain ⟨a,b⟩:=ring_ok hs hx
      exact ⟨x,hx,rfl,rfl,a,b⟩
    · unfold cR runnables
      dsimp only
      rw [he]
      simp only [List.count_append,List.count_cons,beq_iff_eq]
      rw [if_swap n g]; omega
structure StealP (s:SD) (p v g:Int) (l:List Int) (t:SD):Prop where
  took:Took s t g
  mine:listR (getP t p).r=listR (getP s p).r ++ ((g::l).take (halfN (g::l))).tail
  left:listR (getP t v).r=(g::l).drop (halfN (g::l))
  nx:(getP t v).nx=(getP s v).nx
theorem steal_p {s:SD} (hs:OkS s) {p v:Int} (p1:1≤p) (p2:p≤s.pr) (v1:1≤v) (v2:v≤s.pr) (hv:v≠p) (hn:listR (getP s p).r=[]) {g:Int} {l:List Int} (he:listR (getP s v).r=g::l) :
    (stealF s p v).2=g∧StealP s p v g l (stealF s p v).1:=by
  obtain ⟨hlt,hx,hr⟩:=P_of hs p1 p2
  obtain ⟨hlt',hx',hr'⟩:=P_of hs v1 v2
  obtain ⟨h0,h1⟩:=mayR_h hr
  obtain ⟨h0',h1'⟩:=mayR_h hr'
  have hpos:=listR_pos hr'
  have hle:=listR_len (getP s v).r
  rw [he] at hpos hle
  have e:stealF s p v=(setP (setP s v { getP s v with r:=atR (((getP s v).r.h+halfN (g::l)) % 8) ((g::l).drop (halfN (g::l))) }) p { getP s p with r:=atR (getP s p).r.h (listR (getP s p).r ++ ((g::l).take (halfN (g::l))).tail) },g):=by
    unfold stealF; rw [if_neg (by omega),he]
  rw [e]
  refine ⟨rfl,?_⟩
  obtain ⟨k,hk⟩ : ∃ k,k=halfN (g::l):=⟨_,rfl⟩
  have hk1:1≤k∧k≤(g::l).length:=by unfold halfN at hk; simp only [List.length_cons] at hk ⊢; omega
  rw [← hk]
  have hmem1:∀ x∈((g::l).take k).tail,x∈g::l:=fun x hx=>List.mem_of_mem_take (List.mem_of_mem_tail hx)
  obtain ⟨a1,b1⟩:=mayR_of (atR_is (h:=((getP s v).r.h+k) % 8) (l:=(g::l).drop k) (by omega) (by omega) (by simp at hle ⊢; omega) (fun x hx=>hpos x (List.mem_of_mem_drop hx)))
  have hlen:(((g::l).take k).tail).length≤8:=by simp only [List.length_tail,List.length_take,List.length_cons] at hle ⊢; omega
  obtain ⟨a2,b2⟩:=mayR_of (atR_is (h:=(getP s p).r.h) (l:=listR (getP s p).r ++ ((g::l).take k).tail) (by omega) (by omega) (by rw [hn,List.nil_append]; exact hlen) (fun x hx=>by rw [hn,List.nil_append] at hx; exact hpos x (hmem1 x hx)))
  obtain ⟨y1,hy1⟩ : ∃ y,y={ getP s v with r:=atR (((getP s v).r.h+k) % 8) ((g::l).drop k) }:=⟨_,rfl⟩
  obtain ⟨y2,hy2⟩ : ∃ y,y={ getP s p with r:=atR (getP s p).r.h (listR (getP s p).r ++ ((g::l).take k).tail) }:=⟨_,rfl⟩
  have gp:getP (setP s v y1) p=getP s p:=by rw [getP_set v1 (by omega) p1,if_neg (by omega)]
  have gp2:getP (setP (setP s v y1) p y2) p=y2:=by rw [getP_set p1 (by simp only [setP,List.length_set]; omega) p1,if_pos rfl]
  have gv2:getP (setP (setP s v y1) p y2) v=y1:=by rw [getP_set p1 (by simp only [setP,List.length_set]; omega) v1,if_neg hv,getP_set v1 (by omega) v1,if_pos rfl]
  rw [← hy1,← hy2]
  have r1:listR y1.r=(g::l).drop k:=by rw [hy1]; exact b1
  have r2:listR y2.r=listR (getP s p).r ++ ((g::l).take k).tail:=by rw [hy2]; exact b2
  have n1:y1.nx=(getP s v).nx:=by rw [hy1]
  have n2:y2.nx=(getP s p).nx:=by rw [hy2]
  refine ⟨⟨rfl,rfl,rfl,by simp [setP],⟨rfl,rfl,rfl,rfl,rfl⟩,⟨rfl,rfl,rfl,rfl⟩,⟨rfl,rfl⟩,fun j x hj=>?_,fun n=>?_⟩,by rw [← hk]; show listR (getP (setP (setP s v y1) p y2) p).r=_; rw [gp2]; exact r2,by rw [← hk]; show listR (getP (setP (setP s v y1) p y2) v).r=_; rw [gv2]; exact r1,by show (getP (setP (setP s v y1) p y2) v).nx=_; rw [gv2,n1]⟩
  · rcases set_get (l:=(setP s v y1).ps) hj with ⟨rfl,_,rfl⟩|⟨_,h⟩
    · exact ⟨_,hx,by rw [hy2],by rw [hy2],by rw [hy2]; exact a2,.inl (by omega)⟩
    · exact hP_set hs v1 v2 (by rw [hy1]) (by rw [hy1]) (by rw [hy1]; exact a1) j x h
  · have q1:=cR_set hx' y1 n
    have q2:=cR_set (s:=setP s v y1) (p:=p) (x:=getP s p) (by rw [← gp]; exact getP_of (by simp only [setP,List.length_set]; omega)) y2 n
    have c1:=queue_count y1 n
    have c2:=queue_count y2 n
    have c3:=queue_count (getP s v) n
    have c4:=queue_count (getP s p) n
    rw [n1,r1] at c1
    rw [n2,r2,hn,List.nil_append] at c2
    rw [hn] at c4
    rw [he] at c3
    have hs2:(g::l).count n=(if n=g then 1 else 0)+(((g::l).take k).tail).count n+((g::l).drop k).count n:=by
      have:(g::l).take k=g::((g::l).take k).tail:=by
        cases k with
        | zero=>omega
        | succ k=>simp
      have h2:(g::l).count n=((g::l).take k).count n+((g::l).drop k).count n:=by rw [← List.count_append,List.take_append_drop]
      rw [h2]
      rw [this]
      simp only [List.tail_cons,List.count_cons,beq_iff_eq]
      rw [if_swap n g]; omega
    simp only [List.count_nil] at c4
    show cR (setP (setP s v y1) p y2) n+(if n=g then 1 else 0)=cR s n
    omega
theorem steal_took {s:SD} (hs:OkS s) {p v:Int} (p1:1≤p) (p2:p≤s.pr) (hn:listR (getP s p).r=[]) (h:(stealF s p v).2≠0):Took s (stealF s p v).1 (stealF s p v).2:=by
  by_cases hc:v < 1∨s.pr < v∨v=p
  · exact absurd (by unfold stealF; rw [if_pos hc]) h
  · cases he:listR (getP s v).r with
    | nil =>
      have e:stealF s p v=nextF s v:=by unfold stealF; rw [if_neg hc,he]
      rw [e] at h ⊢
      exact next_took hs (by omega) (by omega) h
    | cons g l =>
      obtain ⟨e,q⟩:=steal_p hs p1 p2 (by omega) (by omega) (by omega) hn he
      rw [e]; exact q.took
theorem pick_took {s:SD} {p v:Int} (hl:looksB s p=true) :
    ((pickS s p v).2≠0∧∃ t,Took s t (pickS s p v).2∧(pickS s p v).1=runS t p (pickS s p v).2) ∨
    ((pickS s p v).2=0∧(pickS s p v).1=s∧queueOf (getP s p)=[]∧s.gl=[]∧(v=p∨v < 1∨s.pr < v∨queueOf (getP s v)=[])):=by
  have hL:=looks_of hl
  have hs:=hL.ok
  obtain ⟨hlt,hx,hr⟩:=P_of hs hL.p1 hL.p2
  by_cases h0:(nextF s p).2=0
  · have h0':(getP s p).nx=0:=h0
    by_cases h1:(localF s p).2=0
    · obtain ⟨_,h1'⟩:=local_zero hr h1
      by_cases h2:(globalF s).2=0
      · obtain ⟨_,h2'⟩:=global_zero (fun x hx=>(hs.inR x (List.mem_append_right _ hx)).1) h2
        by_cases h3:(stealF s p v).2=0
        · rw [pick_none h0' h1' h2' h3]
          have h8:=hs.p8
          have hpr:=hs.pr8
          refine .inr ⟨rfl,steal_zero (by omega) (fun v v1 v2=>(P_of hs v1 v2).2.2) h3,by unfold queueOf; rw [if_pos h0',h1']; rfl,h2',?_⟩
          unfold stealF at h3
          by_cases hc:v < 1∨s.pr < v∨v=p
          · omega
          · rw [if_neg hc] at h3
            refine .inr (.inr (.inr ?_))
            cases he:listR (getP s v).r with
            | nil =>
              rw [he] at h3
              have h3:(getP s v).nx=0:=h3
              unfold queueOf; rw [if_pos h3,he]; rfl
            | cons g l =>
              rw [he] at h3
              have:=listR_pos (P_of hs (p:=v) (by omega) (by omega)).2.2 g (by rw [he]; simp)
              have h3:g=0:=h3
              omega
        · rw [pick_steal h0' h1' h2' h3]
          exact .inl ⟨h3,_,steal_took hs hL.p1 hL.p2 h1' h3,rfl⟩
      · rw [pick_global h0' h1' h2]
        exact .inl ⟨h2,_,global_took hs h2,rfl⟩
    · rw [pick_local h0' h1]
      exact .inl ⟨h1,_,local_took hs hL.p1 hL.p2 h1,rfl⟩
  · rw [pick_next h0]
    exact .inl ⟨h0,_,next_took hs hL.p1 hL.p2 h0,rfl⟩
end Go.Ab

namespace Go.Ab
open Go
theorem drop_ring {g:Int} {x:PD} (hr:mayR x.r=true):mayR (dropP g x).r=true∧listR (dropP g x).r=(listR x.r).filter fun z=>decide (z≠g):=by
  unfold dropP
  dsimp only
  by_cases h:g∈listR x.r
  · rw [if_pos h]
    obtain ⟨h0,h1⟩:=mayR_h hr
    have:=listR_len x.r
    have hf:=List.length_filter_le (fun z=>decide (z≠g)) (listR x.r)
    exact mayR_of (atR_is h0 h1 (by omega) (fun y hy=>listR_pos hr y (List.mem_filter.1 hy).1))
  · rw [if_neg h]
    have e:(if x.nx=g then { x with nx:=0 } else x).r=x.r:=by split <;> rfl
    rw [e]
    refine ⟨hr,(List.filter_eq_self.2 fun y hy=>?_).symm⟩
    simp only [decide_eq_true_eq]
    intro q; subst q; exact h hy
theorem drop_keep (g:Int) (x:PD):(dropP g x).m=x.m∧(dropP g x).sq=x.sq∧(dropP g x).nx=if x.nx=g then 0 else x.nx:=by
  unfold dropP
  dsimp only
  by_cases h:x.nx=g
  · rw [if_pos h,if_pos h]; split <;> exact ⟨rfl,rfl,rfl⟩
  · rw [if_neg h,if_neg h]; split <;> exact ⟨rfl,rfl,rfl⟩
theorem drop_queue {g:Int} (g1:1≤g) {x:PD} (hr:mayR x.r=true) (n:Int):(queueOf (dropP g x)).count n=if n=g then 0 else (queueOf x).count n:=by
  rw [queue_count,queue_count,(drop_ring hr).2,(drop_keep g x).2.2]
  by_cases e:n=g
  · subst e
    rw [if_pos rfl]
    have:((listR x.r).filter fun z=>decide (z≠n)).count n=0:=List.count_eq_zero.2 (by simp)
    rw [this]
    by_cases h:x.nx=n
    · rw [if_pos h,if_neg (fun q=>q.1 rfl)]
    · rw [if_neg h,if_neg (fun q=>h q.2)]
  · rw [if_neg e,List.count_filter (by simpa using e)]
    by_cases h:x.nx=g
    · rw [if_pos h,if_neg (fun q=>q.1 rfl),if_neg (fun q=>e (by omega))]
    · rw [if_neg h]
theorem drop_flat {g:Int} (g1:1≤g) (n:Int):∀ {l:List PD},(∀ x∈l,mayR x.r=true)→((l.map (dropP g)).flatMap queueOf).count n=if n=g then 0 else (l.flatMap queueOf).count n
  | [],_=>by simp
  | x::l,h=>by
    rw [List.map_cons,List.flatMap_cons,List.flatMap_cons,List.count_append,List.count_append,drop_queue g1 (h x (by simp)),drop_flat g1 n (fun y hy=>h y (by simp [hy]))]
    split <;> omega
theorem drop_took {s:SD} (hs:OkS s) {g:Int} (g1:1≤g) (g2:g.toNat≤s.gs.length) (hst:(getG s g).st=1):Took s (dropS s g) g:=by
  have hR:∀ x∈s.ps,mayR x.r=true:=fun x hx=>by
    obtain ⟨j,hj⟩:=List.mem_iff_getElem?.1 hx
    exact (ring_ok hs hj).1
  refine ⟨rfl,rfl,rfl,by simp [dropS],⟨rfl,rfl,rfl,rfl,rfl⟩,⟨rfl,rfl,rfl,rfl⟩,⟨rfl,rfl⟩,fun j x hx=>?_,fun n=>?_⟩
  · simp only [dropS,List.getElem?_map,Option.map_eq_some_iff] at hx
    obtain ⟨y,hy,rfl⟩:=hx
    obtain ⟨a,b⟩:=ring_ok hs hy
    obtain ⟨c1,c2,c3⟩:=drop_keep g y
    refine ⟨y,hy,c1,c2,(drop_ring a).1,?_⟩
    rcases b with b|⟨b1,b2⟩
    · exact .inl b
    · refine .inr ⟨by rw [c3,b1]; split <;> rfl,?_⟩
      have h1:=listR_n a
      have h2:listR y.r=[]:=List.length_eq_zero_iff.1 (by omega)
      have h3:=listR_n (drop_ring (g:=g) a).1
      rw [(drop_ring a).2,h2] at h3
      simp at h3; omega
  · have h1:=(stands_cnt s g).1 (hs.st g g1 (by omega))
    have h2:=h1.2.1
    rw [if_pos hst] at h2
    unfold cR runnables at h2 ⊢
    simp only [dropS,List.count_append] at h2 ⊢
    rw [drop_flat g1 n hR]
    by_cases e:n=g
    · subst e
      have:(s.gl.filter fun x=>decide (x≠n)).count n=0:=List.count_eq_zero.2 (by simp)
      rw [this]; simp; omega
    · rw [if_neg e,if_neg e,List.count_filter (by simpa using e)]; omega
theorem start_ok {s:SD} {p g:Int} (hl:looksB s p=true) (g1:1≤g) (g2:g.toNat≤s.gs.length) (hst:(getG s g).st=1) (hsq:(getG s g).sq≤1000000) :
    mayS (startS s p g)=true∧placeS (startS s p g) g=(4,(getP s p).m)∧(startS s p g).gs.length=s.gs.length∧∀ n:Int,1≤n→n≤s.gs.length→n≠g→placeS (startS s p g) n=placeS s n:=by
  have hL:=looks_of hl
  have hs:=hL.ok
  have ht:=drop_took hs g1 g2 hst
  obtain ⟨_,_,hok⟩:=took_ok hL ht hsq
  obtain ⟨q1,_,q3⟩:=took_place hL ht hsq
  have hR:∀ (j:Nat) x,s.ps[j]?=some x→mayR x.r=true:=fun j x hx=>(ring_ok hs hx).1
  refine ⟨(may_ok _).2 hok,q1,q3,fun n n1 n2 hne=>?_⟩
  have h8:=hs.p8
  have hpr:=hs.pr8
  have p1:=hL.p1
  have p2:=hL.p2
  have m1:=hL.m1
  have m2:=hL.m2
  obtain ⟨m,hm⟩ : ∃ m,m=(getP s p).m:=⟨_,rfl⟩
  rw [← hm] at hL m1 m2
  have em:(getP (dropS s g) p).m=m:=by rw [ht.getP (by omega),hm]
  have e:startS s p g=setM (turnS (dropS s g) g 2 m) m ⟨(getM s m).p,g⟩:=by unfold startS runS; rw [em]; rfl
  rcases hz:placeS s n with ⟨k,i⟩
  have hk:=(place_of ((may_ok s).2 hs) n1 n2).1 hz
  refine (place_of ((may_ok _).2 hok) n1 (by have:(runS (dropS s g) p g).gs.length=s.gs.length:=q3; rw [this]; exact n2)).2 ?_
  have ee:runS (dropS s g) p g=setM (turnS (dropS s g) g 2 m) m ⟨(getM s m).p,g⟩:=e
  rw [ee]
  rcases puts_mem.1 hk with h|⟨h,rfl,rfl⟩|⟨h,rfl,rfl⟩|⟨h,rfl,rfl⟩|⟨h,rfl,rfl⟩|⟨h,rfl,rfl⟩|⟨h,rfl,rfl⟩|h|h
  · obtain ⟨j,q,h1,h2,h3⟩:=puts_P.1 h
    refine puts_mem.2 (.inl (puts_P.2 ⟨j,dropP g q,?_,h2,?_⟩))
    · show (s.ps.map (dropP g))[j]?=_
      rw [List.getElem?_map,h1]; rfl
    · rcases h3 with ⟨rfl,h4,h5⟩|⟨rfl,h4⟩
      · exact .inl ⟨rfl,by rw [(drop_keep g q).2.2,if_neg (by omega),h4],h5⟩
      · exact .inr ⟨rfl,by rw [(drop_ring (hR _ _ h1)).2]; exact List.mem_filter.2 ⟨h4,by simpa using hne⟩⟩
  · exact puts_mem.2 (.inr (.inl ⟨List.mem_filter.2 ⟨h,by simpa using hne⟩,rfl,rfl⟩))
  · exact puts_mem.2 (.inr (.inr (.inl ⟨h,rfl,rfl⟩)))
  · exact puts_mem.2 (.inr (.inr (.inr (.inl ⟨h,rfl,rfl⟩))))
  · exact puts_mem.2 (.inr (.inr (.inr (.inr (.inl ⟨h,rfl,rfl⟩)))))
  · exact puts_mem.2 (.inr (.inr (.inr (.inr (.inr (.inl ⟨h,rfl,rfl⟩))))))
  · exact puts_mem.2 (.inr (.inr (.inr (.inr (.inr (.inr (.inl ⟨h,rfl,rfl⟩)))))))
  · refine puts_mem.2 (.inr (.inr (.inr (.inr (.inr (.inr (.inr (.inl ?_))))))))
    obtain ⟨j,x,h1,h2,h3,h4⟩:=(putsMs_mem _ _ _ _ _).1 h
    refine (putsMs_mem _ _ _ _ _).2 ⟨j,x,?_,h2,h3,h4⟩
    have hj:j≠m.toNat - 1:=fun q=>by
      subst q
      have h5:=getM_of (s:=s) (p:=m) (by omega)
      rw [h5] at h1; cases h1
      have:=hL.g0; omega
    exact (List.getElem?_set_ne (l:=s.ms) (fun q=>hj q.symm)).trans h1
  · refine puts_mem.2 (.inr (.inr (.inr (.inr (.inr (.inr (.inr (.inr ?_))))))))
    rw [← mem_atL,atL_Gs] at h ⊢
    have e1:(setM (turnS (dropS s g) g 2 m) m ⟨(getM s m).p,g⟩).gs.length=s.gs.length:=by simp [setM,turnS,setG,dropS]
    have e2:((setM (turnS (dropS s g) g 2 m) m ⟨(getM s m).p,g⟩).gs.getD (n - 0 - 1).toNat default)=s.gs.getD (n - 0 - 1).toNat default:=by
      rw [show (n - 0 - 1).toNat=n.toNat - 1 by omega]
      exact (getG_set (s:=dropS s g) g1 g2 n1).trans (if_neg hne)
    rw [e1,e2]; exact h
end Go.Ab

namespace Go.Ab
open Go
theorem src_fit {s t:SD} {p z:Int} (h:SrcP s t p z) (hs:Fit s):Fit (runS t p z):=by
  obtain ⟨w0,w1,w2,w3,w4⟩:=h.ws
  have hgl:=h.gl
  refine ⟨?_,?_,?_,?_,?_,?_,?_,?_,?_,?_,?_⟩
  · show t.prog.length≤_; rw [h.prog]; exact hs.prog
  · show ∀ f∈t.prog,_; rw [h.prog]; exact hs.code
  · have:(runS t p z).gs.length=t.gs.length:=by simp [runS,setM,turnS,setG]
    rw [this,h.gs]; exact hs.gs
  · show t.ps.length≤_; rw [h.pl]; exact hs.ps
  · have:(runS t p z).ms.length=t.ms.length:=by simp [runS,setM,turnS,setG]
    rw [this,h.ms]; exact hs.ms
  · show t.gl.length≤_; have:=hs.gl; omega
  · show t.w0.length≤_; rw [w0]; exact hs.w0
  · show t.w1.length≤_; rw [w1]; exact hs.w1
  · show t.w2.length≤_; rw [w2]; exact hs.w2
  · show t.w3.length≤_; rw [w3]; exact hs.w3
  · show t.ts.length≤_; rw [w4]; exact hs.ts
theorem start_fit {s:SD} {p g:Int} (hs:Fit s):Fit (startS s p g):=by
  refine ⟨hs.prog,hs.code,?_,?_,?_,?_,hs.w0,hs.w1,hs.w2,hs.w3,hs.ts⟩
  · have:(startS s p g).gs.length=s.gs.length:=by simp [startS,runS,setM,turnS,setG,dropS]
    rw [this]; exact hs.gs
  · have:(startS s p g).ps.length=s.ps.length:=by simp [startS,runS,setM,turnS,setG,dropS]
    rw [this]; exact hs.ps
  · have:(startS s p g).ms.length=s.ms.length:=by simp [startS,runS,setM,turnS,setG,dropS]
    rw [this]; exact hs.ms
  · show (s.gl.filter fun x=>decide (x≠g)).length≤_
    have:=List.length_filter_le (fun x=>decide (x≠g)) s.gl
    have:=hs.gl
    omega
theorem queueS_eq {s:SD} (hm:mayS s=true) {v:Int}:queueS s v=if 1≤v∧v≤s.pr then queueOf (getP s v) else []:=by
  unfold queueS
  by_cases h:1≤v∧v≤s.pr
  · rw [if_pos h,if_neg (by rw [hm]; simp; omega)]; rfl
  · rw [if_neg h,if_pos (.inl h)]
theorem queue_nil {x:PD} (h:queueOf x=[]):x.nx=0∧listR x.r=[]:=by
  unfold queueOf at h
  by_cases e:x.nx=0
  · rw [if_pos e,List.nil_append] at h; exact ⟨e,h⟩
  · rw [if_neg e] at h; simp at h
theorem pick_zero {s:SD} {p v:Int} (hm:mayS s=true) (h1:queueOf (getP s p)=[]) (h2:s.gl=[]) (h3:v=p∨queueS s v=[]):(pickS s p v).2=0:=by
  obtain ⟨a,b⟩:=queue_nil h1
  have h4:(stealF s p v).2=0:=by
    unfold stealF
    by_cases hc:v < 1∨s.pr < v∨v=p
    · rw [if_pos hc]
    · rw [if_neg hc]
      have h5:=h3.resolve_left (by omega)
      rw [queueS_eq hm,if_pos (by omega)] at h5
      obtain ⟨c,d⟩:=queue_nil h5
      rw [d]; exact c
  rw [pick_none a b h2 h4]
theorem pick_fit {s:SD} {p v:Int} (hs:Fit s) (hl:looksB s p=true):Fit (pickS s p v).1:=by
  have hL:=looks_of hl
  have ho:=hL.ok
  have h8:=ho.p8
  have hpr:=ho.pr8
  have p1:=hL.p1
  have p2:=hL.p2
  obtain ⟨hlt,hx,hr⟩:=P_of ho hL.p1 hL.p2
  by_cases h0:(nextF s p).2=0
  · by_cases h1:(localF s p).2=0
    · obtain ⟨_,h1'⟩:=local_zero hr h1
      by_cases h2:(globalF s).2=0
      · obtain ⟨_,h2'⟩:=global_zero (fun x hx=>(ho.inR x (List.mem_append_right _ hx)).1) h2
        by_cases h3:(stealF s p v).2=0
        · rw [pick_none h0 h1' h2' h3]
          have:=steal_zero (p:=p) (v:=v) (by omega) (fun v v1 v2=>(P_of ho v1 v2).2.2) h3
          rw [this]; exact hs
        · rw [pick_steal h0 h1' h2' h3]; exact src_fit (steal_src p1 (by omega) (by omega)) hs
      · rw [pick_global h0 h1' h2]; exact src_fit global_src hs
    · rw [pick_local h0 h1]; exact src_fit (local_src p1 (by omega)) hs
  · rw [pick_next h0]; exact src_fit (next_src p1 (by omega) p1) hs
theorem runs_facts {s:SD} {p v:Int} (hl:looksB s p=true) (hsq:∀ x∈s.gs,x.sq≤1000000) :
    ((pickS s p v).2=0∧(pickS s p v).1=s∧queueOf (getP s p)=[]∧s.gl=[]∧(v=p∨queueS s v=[])) ∨
    ((pickS s p v).2≠0∧(queueOf (getP s p)≠[]∨s.gl≠[]∨v≠p∧queueS s v≠[])∧1≤(pickS s p v).2∧(pickS s p v).2≤s.gs.length∧mayS (pickS s p v).1=true∧(pickS s p v).1.gs.length=s.gs.length ∧
      (getG s (pickS s p v).2).st=1∧placeS (pickS s p v).1 (pickS s p v).2=(4,(getP s p).m)∧(getG (pickS s p v).1 (pickS s p v).2).sq=(getG s (pickS s p v).2).sq+1):=by
  have hL:=looks_of hl
  have hm:=(may_ok s).2 hL.ok
  rcases pick_took (v:=v) hl with ⟨h1,t,ht,he⟩|⟨h1,h2,h3,h4,h5⟩
  · refine .inr ⟨h1,?_,?_⟩
    · by_cases a:queueOf (getP s p)=[]
      · by_cases b:s.gl=[]
        · by_cases c:v=p∨queueS s v=[]
          · exact absurd (pick_zero hm a b c) h1
          · exact .inr (.inr ⟨fun e=>c (.inl e),fun e=>c (.inr e)⟩)
        · exact .inr (.inl b)
      · exact .inl a
    · obtain ⟨g,hg⟩ : ∃ g,g=(pickS s p v).2:=⟨_,rfl⟩
      rw [← hg] at ht he ⊢
      have hz:1≤g∧g≤s.gs.length:=by
        have hc:=ht.cnt g
        rw [if_pos rfl] at hc
        exact in_s hL.ok g (by omega)
      have hq:(getG s g).sq≤1000000:=hsq _ (List.mem_of_getElem? (getG_of (s:=s) (p:=g) (by omega)))
      obtain ⟨a,b,c⟩:=took_ok hL ht hq
      obtain ⟨d,e,f⟩:=took_place hL ht hq
      rw [he]
      exact ⟨a.1,a.2,(may_ok _).2 c,f,b,d,e⟩
  · refine .inl ⟨h1,h2,h3,h4,?_⟩
    rcases h5 with h5|h5|h5|h5
    · exact .inl h5
    · exact .inr (by rw [queueS_eq hm,if_neg (by omega)])
    · exact .inr (by rw [queueS_eq hm,if_neg (by omega)])
    · refine .inr ?_
      rw [queueS_eq hm]
      split
      · exact h5
      · rfl
theorem steals_facts {s:SD} {p v:Int} (hl:looksB s p=true) (v1:1≤v) (v2:v≤s.pr) (hv:v≠p) (hgl:s.gl=[]) (hq:queueOf (getP s p)=[]) :
    (pickS s p v).1.ps.length=s.ps.length∧((listR (getP s v).r=[]∧(pickS s p v).2=(getP s v).nx) ∨
      (listR (getP s v).r≠[]∧listR (getP s v).r=[(pickS s p v).2] ++ listR (getP (pickS s p v).1 p).r ++ listR (getP (pickS s p v).1 v).r ∧
        (listR (getP (pickS s p v).1 v).r).length=(listR (getP s v).r).length / 2∧(getP (pickS s p v).1 v).nx=(getP s v).nx)):=by
  have hL:=looks_of hl
  have ho:=hL.ok
  have h8:=ho.p8
  have hpr:=ho.pr8
  obtain ⟨a,b⟩:=queue_nil hq
  have pl:(pickS s p v).1.ps.length=s.ps.length:=by
    have hr:=steal_src (s:=s) (p:=p) (v:=v) hL.p1 (by have:=hL.p2; omega) (by omega)
    by_cases h:(stealF s p v).2=0
    · rw [pick_none a b hgl h]; exact hr.pl
    · rw [pick_steal a b hgl h]; exact hr.pl
  refine ⟨pl,?_⟩
  cases he:listR (getP s v).r with
  | nil =>
    refine .inl ⟨rfl,?_⟩
    have e:stealF s p v=nextF s v:=by unfold stealF; rw [if_neg (by omega),he]
    by_cases h:(stealF s p v).2=0
    · rw [pick_none a b hgl h]; rw [e] at h; exact h.symm
    · rw [pick_steal a b hgl h,e]; rfl
  | cons g l =>
    obtain ⟨e,q⟩:=steal_p ho hL.p1 hL.p2 v1 v2 hv b he
    have g1:=listR_pos (P_of ho v1 v2).2.2 g (by rw [he]; simp)
    have h:(stealF s p v).2≠0:=by omega
    rw [pick_steal a b hgl h]
    refine .inr ⟨by simp,?_⟩
    have q1:listR (getP (runS (stealF s p v).1 p (stealF s p v).2) p).r=((g::l).take (halfN (g::l))).tail:=by
      have:=q.mine
      rw [b,List.nil_append] at this
      exact this
    have q2:listR (getP (runS (stealF s p v).1 p (stealF s p v).2) v).r=(g::l).drop (halfN (g::l)):=q.left
    have q3:(getP (runS (stealF s p v).1 p (stealF s p v).2) v).nx=(getP s v).nx:=q.nx
    dsimp only
    rw [q1,q2,q3,e]
    have hk1:1≤halfN (g::l)∧halfN (g::l)≤(g::l).length:=by unfold halfN; simp only [List.length_cons]; omega
    refine ⟨?_,by rw [List.length_drop]; unfold halfN; omega,rfl⟩
    have:(g::l).take (halfN (g::l))=g::((g::l).take (halfN (g::l))).tail:=by
      cases hk:halfN (g::l) with
      | zero=>omega
      | succ k=>simp
    calc g::l=(g::l).take (halfN (g::l)) ++ (g::l).drop (halfN (g::l)):=(List.take_append_drop _ _).symm
      _=_:=by rw [this]; simp
end Go.Ab
