/-
  May a state's parts be, each for itself? the program.
-/
import Derived.Test.YtkanpbjjabdalaaK15
import Derived.Test.YtkanpbjjabdalaaK18
import Derived.Test.YtkanpbjjabdalaaK19
set_option linter.all false
namespace Go.Ab
open Go Go.Proofs
set_option maxRecDepth 100000
theorem r_May (r:RD) (b:Bool) (hb:b=mayR r):CallsV Try.prog 54 [.agg (rC r)] (.bool b) [.undef] true:=by
 rw [rC_ring]; exact c54 r.f r.h r.n b (by rw [hb]; exact mayR_iff r)
theorem queueOf_zero {p:PD} (h:mayR p.r=true):(queueOf p).length=0↔(p.nx=0/\p.r.n<=0):=by
 obtain ⟨h0,h1,m0,m1,_⟩:=(mayR_iff p.r).1 h
 unfold queueOf listR
 rw [if_pos h]
 by_cases hn:p.nx=0
 ·rw [if_pos hn]; simp [hn]; try omega
 ·rw [if_neg hn]; simp [hn]
def partsS (s:SD):Bool :=
 mayP s.prog&&(decide (1<=s.gs.length/\s.gs.length<=1000/\s.ps.length=8/\1<=s.pr/\s.pr<=8/\s.ms.length<=1000)&&(decide (0<=s.ck/\s.ck < 2305843009213693952)&&(mayT [] s.ts&&(s.gs.all (okG s.prog)&&(allI (okP s) 0 s.ps&&(allI (fun i m=>decide (okMp s i m)) 0 s.ms &&
  (okCt s.c0 s.w0&&(okCt s.c1 s.w1&&(okCt s.c2 s.w2&&okCt s.c3 s.w3)))))))))
theorem mayS_parts (s:SD):mayS s=(partsS s&&(inB s.gs.length (runnables s)&&(inB s.gs.length (waiters s)&&(inB s.gs.length (onMs s true)&&(inB s.gs.length (onMs s false) &&
  (List.range s.gs.length).all fun j:Nat=>standsB s (j+1)))))):=by
 unfold mayS partsS holdsB
 simp only [Bool.and_assoc]
set_option maxHeartbeats 16000000 in
theorem c79 (s : SD) (hs:Fit s) (b:Bool) (hb:b=partsS s):CallsV Try.prog 79 [.agg (stC s)] (.bool b) [.undef] true:=by
 obtain ⟨bp,hbp⟩ : ∃ z,z=mayP s.prog:=⟨_,rfl⟩
 obtain ⟨bl,hbl⟩ : ∃ z,z=decide (0<=s.ck/\s.ck < 2305843009213693952):=⟨_,rfl⟩
 obtain ⟨bt,hbt⟩ : ∃ z,z=mayT [] s.ts:=⟨_,rfl⟩
 have cp:=c106 s.prog hs.prog hs.code bp hbp
 have cl:=r_fit s.ck bl hbl
 have ct:=c108 s.ts hs.ts bt hbt
 have hgs:=hs.gs
 have hms:=hs.ms
 have hpg:=hs.prog
 have hcd:=hs.code
 unfold partsS at hb
 rw [<- hbp,<- hbl,<- hbt] at hb
 clear hbp hbl hbt hs
 obtain ⟨s0,hs0⟩ : ∃ s0,s0=s:=⟨_,rfl⟩
 obtain ⟨GP,hGP⟩ : ∃ f,f=okP s:=⟨_,rfl⟩
 obtain ⟨GM,hGM⟩ : ∃ f,f=fun i m=>decide (okMp s i m):=⟨_,rfl⟩
 rw [<- hGP,<- hGM] at hb
 rw [<- hs0] at hGP hGM
 have e1:s0.ps=s.ps:=by rw [hs0]
 have e2:s0.ms=s.ms:=by rw [hs0]
 have e3:s0.pr=s.pr:=by rw [hs0]
 clear hs0
 obtain ⟨prog,gs,ps,ms,gl,c0,c1,c2,c3,w0,w1,w2,w3,ts,ck,pr⟩:=s
 obtain ⟨rp,rg,rq,rm,rl,r0,r1,r2,r3,rt,⟨h_rp,s_rp,l_rp⟩,⟨h_rg,s_rg,l_rg⟩,⟨h_rq,s_rq,l_rq⟩,⟨h_rm,s_rm,l_rm⟩,⟨h_rl,s_rl,l_rl⟩,⟨h_r0,s_r0,l_r0⟩,⟨h_r1,s_r1,l_r1⟩,⟨h_r2,s_r2,l_r2⟩,⟨h_r3,s_r3,l_r3⟩,⟨h_rt,s_rt,l_rt⟩,hst_⟩:=stR prog gs ps ms gl c0 c1 c2 c3 w0 w1 w2 w3 ts ck pr
 dsimp only at hgs hms hpg hcd cp cl ct hb e1 e2 e3
 rw [hst_]
 rw [<- h_rp] at cp
 rw [<- h_rt] at ct
 refine callsV_q hD Try.func79 ok79 rfl rfl (by simp only [List.map_cons,List.map_nil,V.sh,V.shL,stL,s_rp,s_rg,s_rq,s_rm,s_rl,s_r0,s_r1,s_r2,s_r3,s_rt]) fun P Q hP hQ=>?_
 clear hst_ h_rl h_r0 h_r1 h_r2 h_r3 h_rt l_rl l_rt
 by_cases hlin:1<=gs.length/\gs.length<=1000/\ps.length=8/\1<=pr/\pr<=8/\ms.length<=1000
 ·rw [decide_eq_true hlin,Bool.true_and] at hb
  cases bp with
  |false =>
   try rw [<- hP] at cp
   repeat' (cbv; first|refine .y ?_|refine .n ?_|refine .s (fun hc=>?_) fun hc=>?_|refine .gq cp ?_|refine .a fun v hv=>?_|refine .d ?_|refine .u fun vr vn hvr hvn hvl=>?_|fail)
   all_goals (try cbv)
   have hbe:b=false:=by exact hb
   subst hbe; refine hQ _ ?_; exact ⟨rfl,rfl,rfl,rfl,rfl⟩
  |true =>
  cases bl with
  |false =>
   try rw [<- hP] at cp
   try rw [<- hP] at cl
   repeat' (cbv; first|refine .y ?_|refine .n ?_|refine .s (fun hc=>?_) fun hc=>?_|refine .gq cp ?_|refine .gq cl ?_|refine .a fun v hv=>?_|refine .d ?_|refine .u fun vr vn hvr hvn hvl=>?_|fail)
   all_goals (try cbv)
   have hbe:b=false:=by exact hb
   subst hbe; refine hQ _ ?_; exact ⟨rfl,rfl,rfl,rfl,rfl⟩
  |true =>
  cases bt with
  |false =>
   try rw [<- hP] at cp
   try rw [<- hP] at cl
   try rw [<- hP] at ct
   repeat' (cbv; first|refine .y ?_|refine .n ?_|refine .s (fun hc=>?_) fun hc=>?_|refine .gq cp ?_|refine .gq cl ?_|refine .gq ct ?_|refine .a fun v hv=>?_|refine .d ?_|refine .u fun vr vn hvr hvn hvl=>?_|fail)
   all_goals (try cbv)
   have hbe:b=false:=by exact hb
   subst hbe; refine hQ _ ?_; exact ⟨rfl,rfl,rfl,rfl,rfl⟩
  |true =>
  simp only [Bool.true_and] at hb
  obtain ⟨ng,hng⟩ : ∃ n:Int,0<=n/\n.toNat=gs.length:=⟨gs.length,by omega,by omega⟩
  obtain ⟨nm,hnm⟩ : ∃ n:Int,0<=n/\n.toNat=ms.length:=⟨ms.length,by omega,by omega⟩
  obtain ⟨np,hnp⟩ : ∃ n:Int,0<=n/\n.toNat=prog.length:=⟨prog.length,by omega,by omega⟩
  have hgg:0<=ng/\ng.toNat=rg.length:=⟨hng.1,by omega⟩
  have hmm:0<=nm/\nm.toNat=rm.length:=⟨hnm.1,by omega⟩
  have hq8:(0:Int)<=8/\(8:Int).toNat=rq.length:=⟨by omega,by omega⟩
  have hpp:0<=np/\np.toNat=rp.length:=⟨hnp.1,by omega⟩
  obtain ⟨T3,hT3⟩ : ∃ T,T=(okCt c0 w0&&(okCt c1 w1&&(okCt c2 w2&&okCt c3 w3))):=⟨_,rfl⟩
  rw [<- hT3] at hb
  obtain ⟨T2,hT2⟩ : ∃ T,T=(allI GM 0 ms&&T3):=⟨_,rfl⟩
  rw [<- hT2] at hb
  obtain ⟨T1,hT1⟩ : ∃ T,T=(allI GP 0 ps&&T2):=⟨_,rfl⟩
  rw [<- hT1] at hb
  try rw [<- hP] at cp
  try rw [<- hP] at cl
  try rw [<- hP] at ct
  repeat' (cbv; first|refine .y ?_|refine .n ?_|refine .s (fun hc=>?_) fun hc=>?_|refine .ln hgg ?_|refine .gq cp ?_|refine .gq cl ?_|refine .gq ct ?_|refine .a fun v hv=>?_|refine .d ?_|refine .u fun vr vn hvr hvn hvl=>?_|fail)
  all_goals (try cbv)
  refine LoopQ.to (ι:=Int) (fun i=>⟨tab .undef [(1,.ptr 100 0),(63,.sl false 5 rg),(64,.int .i64 ng),(65,.int .i64 i)],tab .dead [(100,.box (stL rp rg rq rm rl c0 c1 c2 c3 r0 r1 r2 r3 rt ck pr))]⟩)
   (fun i=>0<=i/\i.toNat<=gs.length/\b=((gs.drop i.toNat).all (okG prog)&&T1)) (fun i=>gs.length - i.toNat) 0 ⟨by omega,by omega,hb⟩ rfl fun i ⟨i0,i1,hi⟩ A hA=>?_
  clear hb cp ct cl
  rcases drop_cases i1 with ⟨e,hd⟩|⟨hlt,x,hd,hx⟩
  case inr =>
   rw [hd,List.all_cons,Bool.and_assoc] at hi
   have ga:=getD_rows h_rg hx
   obtain ⟨T,hT⟩ : ∃ T,T=((gs.drop (i.toNat+1)).all (okG prog)&&T1):=⟨_,rfl⟩
   rw [<- hT] at hi
   obtain ⟨xf,xp,xs,xm,xq⟩:=x
   rw [show okG prog ⟨xf,xp,xs,xm,xq⟩=(decide (0<=xf/\xf < prog.length/\0<=xp/\0<=xq/\xq < 2305843009213693952)&&decide (xp<=(prog.getD xf.toNat []).length)) from rfl] at hi
   have hnext:b=T->∀ v:Int,v=i+1->b=((gs.drop v.toNat).all (okG prog)&&T1):=fun e v hv=>by
    rw [e,hT,show v.toNat=i.toNat+1 by omega]
   clear hT hT1 hT2 hT3 hGP hGM e1 e2 e3 hd
   obtain ⟨bq,hbq⟩ : ∃ bl,bl=decide (0<=xq/\xq < 2305843009213693952):=⟨_,rfl⟩
   have cq:=r_fit xq bq hbq
   by_cases hr:0<=xf/\xf.toNat < prog.length
   ·obtain ⟨f,hf⟩ : ∃ f,prog[xf.toNat]?=some f:=⟨_,List.getElem?_eq_getElem hr.2⟩
    have lf:=hcd f (mem_of_get hf)
    have gf:=getD_rows h_rp hf
    have hgf:prog.getD xf.toNat []=f:=by rw [List.getD_eq_getElem?_getD,hf]; rfl
    rw [hgf] at hi
    obtain ⟨rf,h_rf⟩ : ∃ r,r=f.map jC:=⟨_,rfl⟩
    have s_rf:V.shR rf=rf:=by rw [h_rf]; exact shR_jC f
    have l_rf:rf.length=f.length:=by simp [h_rf]
    have gf':rp.getD xf.toNat []=[.sl false 2 rf]:=by rw [gf,h_rf]; rfl
    obtain ⟨nf,hnf⟩ : ∃ n:Int,0<=n/\n.toNat=f.length:=⟨f.length,by omega,by omega⟩
    have hff:0<=nf/\nf.toNat=rf.length:=⟨hnf.1,by omega⟩
    have hlf:(xf < prog.length)=(xf < np):=by rw [show (prog.length:Int)=np by omega]
    have hlf2:(xp<=f.length)=(xp<=nf):=by rw [show (f.length:Int)=nf by omega]
    simp only [hlf,hlf2] at hi
    clear hx hf gf hgf hcd hlf hlf2
    by_cases hgood:0<=xp/\xp<=nf
    ·cases bq with
     | true =>
       have hq':=hbq.symm
       simp only [decide_eq_true_eq] at hq'
       rw [decide_eq_true (p:=0<=xf/\xf < np/\0<=xp/\0<=xq/\xq < 2305843009213693952) (by omega),decide_eq_true (p:=xp<=nf) (by omega),Bool.true_and,Bool.true_and] at hi
       try rw [<- hP] at cq
       repeat' (cbv; first|refine .y ?_|refine .n ?_|refine .s (fun hc=>?_) fun hc=>?_|refine .row ga ?_|refine .ln hpp ?_|refine .ln hff ?_|refine .row gf' ?_|refine .gq cq ?_|refine .a fun v hv=>?_|refine .d ?_|refine .u fun vr vn hvr hvn hvl=>?_|fail)
       all_goals (try cbv)
       exact hA _ _ ⟨by omega,by omega,hnext hi _ hv⟩ (by omega) rfl
     | false =>
       have hq':=hbq.symm
       simp only [decide_eq_false_iff_not] at hq'
       rw [decide_eq_false (p:=0<=xf/\xf < np/\0<=xp/\0<=xq/\xq < 2305843009213693952) (by omega),Bool.false_and,Bool.false_and] at hi
       try rw [<- hP] at cq
       repeat' (cbv; first|refine .y ?_|refine .n ?_|refine .s (fun hc=>?_) fun hc=>?_|refine .row ga ?_|refine .ln hpp ?_|refine .ln hff ?_|refine .row gf' ?_|refine .gq cq ?_|refine .a fun v hv=>?_|refine .d ?_|refine .u fun vr vn hvr hvn hvl=>?_|fail)
       all_goals (try cbv)
       have hbe:b=false:=by exact hi
       subst hbe; refine hQ _ ?_; exact ⟨rfl,rfl,rfl,rfl,rfl⟩
    ·have hbe:b=false:=by
       rw [hi]
       by_cases h1:0<=xp
       · rw [decide_eq_false (p:=xp<=nf) (by omega),Bool.and_false,Bool.false_and]
       · rw [decide_eq_false (p:=0<=xf/\xf < np/\0<=xp/\0<=xq/\xq < 2305843009213693952) (by omega),Bool.false_and,Bool.false_and]
     clear hi hnext
     subst hbe
     try rw [<- hP] at cq
     repeat' (cbv; first|refine .y ?_|refine .n ?_|refine .s (fun hc=>?_) fun hc=>?_|refine .row ga ?_|refine .ln hpp ?_|refine .ln hff ?_|refine .row gf' ?_|refine .gq cq ?_|refine .a fun v hv=>?_|refine .d ?_|refine .u fun vr vn hvr hvn hvl=>?_|fail)
     all_goals (try cbv)
     all_goals first
       | (refine hQ _ ?_; exact ⟨rfl,rfl,rfl,rfl,rfl⟩)
       | (exfalso; omega)
   ·rw [decide_eq_false (p:=0<=xf/\xf < prog.length/\0<=xp/\0<=xq/\xq < 2305843009213693952) (by omega),Bool.false_and,Bool.false_and] at hi
    clear hnext hx hcd
    repeat' (cbv; first|refine .y ?_|refine .n ?_|refine .s (fun hc=>?_) fun hc=>?_|refine .row ga ?_|refine .ln hpp ?_|refine .a fun v hv=>?_|refine .d ?_|refine .u fun vr vn hvr hvn hvl=>?_|fail)
    all_goals (try cbv)
    all_goals first
     | (
        have hbe:b=false:=hi
        subst hbe; (refine hQ _ ?_; exact ⟨rfl,rfl,rfl,rfl,rfl⟩))
     | (exfalso; omega)
  rw [hd,List.all_nil,Bool.true_and,hT1] at hi
  clear hd hA hcd hT1
  repeat' (cbv; first|refine .y ?_|refine .n ?_|refine .s (fun hc=>?_) fun hc=>?_|refine .ln hq8 ?_|refine .a fun v hv=>?_|refine .d ?_|refine .u fun vr vn hvr hvn hvl=>?_|fail)
  all_goals (try cbv)
  clear e i1 i0
  refine LoopQ.to (ι:=Int) (fun i=>⟨tab .undef [(1,.ptr 100 0),(106,.sl false 13 rq),(107,.int .i64 8),(108,.int .i64 i)],tab .dead [(100,.box (stL rp rg rq rm rl c0 c1 c2 c3 r0 r1 r2 r3 rt ck pr))]⟩)
   (fun i=>0<=i/\i.toNat<=ps.length/\b=(allI GP i (ps.drop i.toNat)&&T2)) (fun i=>ps.length - i.toNat) 0 ⟨by omega,by omega,hi⟩ rfl fun i ⟨i0,i1,hi⟩ A hA=>?_
  rcases drop_cases i1 with ⟨e,hd⟩|⟨hlt,x,hd,hx⟩
  case inr =>
   rw [hd,allI,Bool.and_assoc] at hi
   have ga:=getD_rows h_rq hx
   obtain ⟨T,hT⟩ : ∃ T,T=(allI GP (i+1) (ps.drop (i.toNat+1))&&T2):=⟨_,rfl⟩
   rw [<- hT] at hi
   have hnext:b=T->∀ v:Int,v=i+1->b=(allI GP v (ps.drop v.toNat)&&T2):=fun e v hv=>by
    rw [e,hT,show v.toNat=i.toNat+1 by omega,hv]
   clear hT hT2 hT3 hd
   obtain ⟨bm,hbm⟩ : ∃ bm,bm=mayR x.r:=⟨_,rfl⟩
   have cm:=r_May x.r bm hbm
   obtain ⟨bq,hbq⟩ : ∃ bl,bl=decide (0<=x.sq/\x.sq < 2305843009213693952):=⟨_,rfl⟩
   have cq:=r_fit x.sq bq hbq
   rw [hGP] at hi
   unfold okP at hi
   rw [<- hbm] at hi
   cases bm with
   |false =>
    clear hnext hbm hGP hGM hx
    obtain ⟨xm,xn,⟨x2,x3,x4,x5,x6,x7,x8,x9,xh,xk⟩,xq⟩:=x
    try rw [<- hP] at cm
    repeat' (cbv; first|refine .y ?_|refine .n ?_|refine .s (fun hc=>?_) fun hc=>?_|refine .row ga ?_|refine .gq cm ?_|refine .a fun v hv=>?_|refine .d ?_|refine .u fun vr vn hvr hvn hvl=>?_|fail)
    all_goals (try cbv)
    have hbe:b=false:=by exact hi
    subst hbe; refine hQ _ ?_; exact ⟨rfl,rfl,rfl,rfl,rfl⟩
   |true =>
   rw [Bool.true_and] at hi
   cases bq with
   |false =>
    have hq':=hbq.symm
    simp only [decide_eq_false_iff_not] at hq'
    rw [decide_eq_false (by unfold okPp; omega),Bool.false_and] at hi
    clear hnext hbm hGP hGM hx
    obtain ⟨xm,xn,⟨x2,x3,x4,x5,x6,x7,x8,x9,xh,xk⟩,xq⟩:=x
    try rw [<- hP] at cm
    try rw [<- hP] at cq
    repeat' (cbv; first|refine .y ?_|refine .n ?_|refine .s (fun hc=>?_) fun hc=>?_|refine .row ga ?_|refine .gq cm ?_|refine .gq cq ?_|refine .a fun v hv=>?_|refine .d ?_|refine .u fun vr vn hvr hvn hvl=>?_|fail)
    all_goals (try cbv)
    have hbe:b=false:=by exact hi
    subst hbe; refine hQ _ ?_; exact ⟨rfl,rfl,rfl,rfl,rfl⟩
   |true =>
   have hq':=hbq.symm
   simp only [decide_eq_true_eq] at hq'
   have cu:=c95 x hbm.symm
   have hz:=queueOf_zero hbm.symm
   have hzl:=queueOf_len x
   obtain ⟨u,hu⟩ : ∃ u,u=queueOf x:=⟨_,rfl⟩
   rw [<- hu] at cu hz hzl
   clear hu hbm
   obtain ⟨ru,h_ru⟩ : ∃ r,r=u.map iC:=⟨_,rfl⟩
   have s_ru:V.shR ru=ru:=by rw [h_ru]; exact shR_iC u
   have l_ru:ru.length=u.length:=by simp [h_ru]
   rw [<- h_ru] at cu
   obtain ⟨nu,hnu⟩ : ∃ n:Int,0<=n/\n.toNat=ru.length:=⟨ru.length,by omega,by omega⟩
   have hnz:nu=0↔(x.nx=0/\x.r.n<=0):=by rw [<- hz]; omega
   clear hz h_ru
   by_cases hr:1<=x.m/\x.m<=nm
   ·obtain ⟨k,hk⟩ : ∃ k:Int,k=x.m - 1:=⟨_,rfl⟩
    obtain ⟨y,hy⟩ : ∃ y,ms[k.toNat]?=some y:=⟨_,List.getElem?_eq_getElem (by omega)⟩
    have gy:=getD_rows h_rm hy
    have hok:okPp s0 i x=(0<=x.sq/\x.sq < 2305843009213693952/\0<=x.m/\x.m<=nm/\(x.m=0\/y.p=i+1)/\(i < pr\/(x.m=0/\x.nx=0/\x.r.n<=0))):=by
     unfold okPp
     rw [e2,e3,show x.m.toNat - 1=k.toNat by omega,getD_of hy,show (ms.length:Int)=nm by omega]
    obtain ⟨y0,y1⟩:=y
    obtain ⟨xm,xn,⟨x2,x3,x4,x5,x6,x7,x8,x9,xh,xk⟩,xq⟩:=x
    dsimp only at hok hq' hnz hr hk
    by_cases hgood:y0=i+1/\i < pr
    ·rw [decide_eq_true (by rw [hok]; omega),Bool.true_and] at hi
     clear hok hGP hGM hx hy hnz
     try rw [<- hP] at cm
     try rw [<- hP] at cq
     repeat' (cbv; first|refine .y ?_|refine .n ?_|refine .s (fun hc=>?_) fun hc=>?_|refine .row ga ?_|refine .ln hmm ?_|refine .wn hk ?_|refine .row gy ?_|refine .gq cm ?_|refine .gq cq ?_|refine .a fun v hv=>?_|refine .d ?_|refine .u fun vr vn hvr hvn hvl=>?_|fail)
     all_goals (try cbv)
     exact hA _ _ ⟨by omega,by omega,hnext hi _ hv⟩ (by omega) rfl
    ·rw [decide_eq_false (by rw [hok]; omega),Bool.false_and] at hi
     clear hok hGP hGM hx hy hnz hnext
     try rw [<- hP] at cm
     try rw [<- hP] at cq
     repeat' (cbv; first|refine .y ?_|refine .n ?_|refine .s (fun hc=>?_) fun hc=>?_|refine .row ga ?_|refine .ln hmm ?_|refine .wn hk ?_|refine .row gy ?_|refine .gq cm ?_|refine .gq cq ?_|refine .a fun v hv=>?_|refine .d ?_|refine .u fun vr vn hvr hvn hvl=>?_|fail)
     all_goals (try cbv)
     all_goals first
       | (
          have hbe:b=false:=hi
          subst hbe; (refine hQ _ ?_; exact ⟨rfl,rfl,rfl,rfl,rfl⟩))
       | (exfalso; omega)
   ·have hok:okPp s0 i x=(0<=x.sq/\x.sq < 2305843009213693952/\x.m=0/\(i < pr\/nu=0)):=by
     unfold okPp
     rw [e2,e3]
     refine propext ⟨fun h=>⟨h.1,h.2.1,by omega,by omega⟩,fun h=>⟨h.1,h.2.1,by omega,by omega,.inl h.2.2.1,by omega⟩⟩
    obtain ⟨xm,xn,⟨x2,x3,x4,x5,x6,x7,x8,x9,xh,xk⟩,xq⟩:=x
    dsimp only at hok hq' hnz hr
    by_cases h0:xm=0/\(i < pr\/nu=0)
    ·rw [decide_eq_true (by rw [hok]; omega),Bool.true_and] at hi
     clear hok hGP hGM hx hnz
     try rw [<- hP] at cm
     try rw [<- hP] at cq
     try rw [<- hP] at cu
     repeat' (cbv; first|refine .y ?_|refine .n ?_|refine .s (fun hc=>?_) fun hc=>?_|refine .row ga ?_|refine .ln hmm ?_|refine .ln hnu ?_|refine .gq cm ?_|refine .gq cq ?_|refine .gq cu ?_|refine .a fun v hv=>?_|refine .d ?_|refine .u fun vr vn hvr hvn hvl=>?_|fail)
     all_goals (try cbv)
     all_goals first
       | (exfalso; omega)
       | exact hA _ _ ⟨by omega,by omega,hnext hi _ hv⟩ (by omega) rfl
    ·rw [decide_eq_false (by rw [hok]; omega),Bool.false_and] at hi
     clear hok hGP hGM hx hnz hnext
     try rw [<- hP] at cm
     try rw [<- hP] at cq
     try rw [<- hP] at cu
     repeat' (cbv; first|refine .y ?_|refine .n ?_|refine .s (fun hc=>?_) fun hc=>?_|refine .row ga ?_|refine .ln hmm ?_|refine .ln hnu ?_|refine .gq cm ?_|refine .gq cq ?_|refine .gq cu ?_|refine .a fun v hv=>?_|refine .d ?_|refine .u fun vr vn hvr hvn hvl=>?_|fail)
     all_goals (try cbv)
     all_goals first
       | (
          have hbe:b=false:=hi
          subst hbe; (refine hQ _ ?_; exact ⟨rfl,rfl,rfl,rfl,rfl⟩))
       | (exfalso; omega)
  rw [hd,allI,Bool.true_and,hT2] at hi
  clear hd hA hT2
  repeat' (cbv; first|refine .y ?_|refine .n ?_|refine .s (fun hc=>?_) fun hc=>?_|refine .ln hmm ?_|refine .a fun v hv=>?_|refine .d ?_|refine .u fun vr vn hvr hvn hvl=>?_|fail)
  all_goals (try cbv)
  clear e i1 i0
  refine LoopQ.to (ι:=Int) (fun i=>⟨tab .undef [(1,.ptr 100 0),(172,.sl false 2 rm),(173,.int .i64 nm),(174,.int .i64 i)],tab .dead [(100,.box (stL rp rg rq rm rl c0 c1 c2 c3 r0 r1 r2 r3 rt ck pr))]⟩)
   (fun i=>0<=i/\i.toNat<=ms.length/\b=(allI GM i (ms.drop i.toNat)&&T3)) (fun i=>ms.length - i.toNat) 0 ⟨by omega,by omega,hi⟩ rfl fun i ⟨i0,i1,hi⟩ A hA=>?_
  rcases drop_cases i1 with ⟨e,hd⟩|⟨hlt,x,hd,hx⟩
  case inr =>
   rw [hd,allI,Bool.and_assoc] at hi
   have ga:=getD_rows h_rm hx
   obtain ⟨T,hT⟩ : ∃ T,T=(allI GM (i+1) (ms.drop (i.toNat+1))&&T3):=⟨_,rfl⟩
   rw [<- hT] at hi
   have hnext:b=T->∀ v:Int,v=i+1->b=(allI GM v (ms.drop v.toNat)&&T3):=fun e v hv=>by
    rw [e,hT,show v.toNat=i.toNat+1 by omega,hv]
   clear hT hT3 hd
   rw [hGM] at hi
   obtain ⟨xp,xg⟩:=x
   dsimp only at hi
   by_cases hr:1<=xp/\xp<=8
   ·obtain ⟨k,hk⟩ : ∃ k:Int,k=xp - 1:=⟨_,rfl⟩
    obtain ⟨y,hy⟩ : ∃ y,ps[k.toNat]?=some y:=⟨_,List.getElem?_eq_getElem (by omega)⟩
    have gy:=getD_rows h_rq hy
    have hok:okMp s0 i ⟨xp,xg⟩=(0<=xp/\xp<=8/\(xp=0\/y.m=i+1)):=by
     unfold okMp
     dsimp only
     rw [e1,show xp.toNat - 1=k.toNat by omega,getD_of hy,show (ps.length:Int)=8 by omega]
    obtain ⟨y0,y1,⟨y2,y3,y4,y5,y6,y7,y8,y9,y10,y11⟩,y12⟩:=y
    dsimp only at hok
    by_cases hgood:y0=i+1
    ·rw [decide_eq_true (by rw [hok]; omega),Bool.true_and] at hi
     clear hok hGP hGM hx hy
     repeat' (cbv; first|refine .y ?_|refine .n ?_|refine .s (fun hc=>?_) fun hc=>?_|refine .row ga ?_|refine .ln hq8 ?_|refine .wn hk ?_|refine .row gy ?_|refine .a fun v hv=>?_|refine .d ?_|refine .u fun vr vn hvr hvn hvl=>?_|fail)
     all_goals (try cbv)
     exact hA _ _ ⟨by omega,by omega,hnext hi _ hv⟩ (by omega) rfl
    ·rw [decide_eq_false (by rw [hok]; omega),Bool.false_and] at hi
     clear hok hGP hGM hx hy hnext
     repeat' (cbv; first|refine .y ?_|refine .n ?_|refine .s (fun hc=>?_) fun hc=>?_|refine .row ga ?_|refine .ln hq8 ?_|refine .wn hk ?_|refine .row gy ?_|refine .a fun v hv=>?_|refine .d ?_|refine .u fun vr vn hvr hvn hvl=>?_|fail)
     all_goals (try cbv)
     all_goals first
       | (
          have hbe:b=false:=hi
          subst hbe; (refine hQ _ ?_; exact ⟨rfl,rfl,rfl,rfl,rfl⟩))
       | (exfalso; omega)
   ·by_cases h0:xp=0
    ·rw [decide_eq_true (by unfold okMp; dsimp only; omega),Bool.true_and] at hi
     clear hGP hGM hx
     repeat' (cbv; first|refine .y ?_|refine .n ?_|refine .s (fun hc=>?_) fun hc=>?_|refine .row ga ?_|refine .ln hq8 ?_|refine .a fun v hv=>?_|refine .d ?_|refine .u fun vr vn hvr hvn hvl=>?_|fail)
     all_goals (try cbv)
     exact hA _ _ ⟨by omega,by omega,hnext hi _ hv⟩ (by omega) rfl
    ·rw [decide_eq_false (by unfold okMp; dsimp only; rw [e1]; omega),Bool.false_and] at hi
     clear hGP hGM hx hnext
     repeat' (cbv; first|refine .y ?_|refine .n ?_|refine .s (fun hc=>?_) fun hc=>?_|refine .row ga ?_|refine .ln hq8 ?_|refine .a fun v hv=>?_|refine .d ?_|refine .u fun vr vn hvr hvn hvl=>?_|fail)
     all_goals (try cbv)
     all_goals first
       | (
          have hbe:b=false:=hi
          subst hbe; (refine hQ _ ?_; exact ⟨rfl,rfl,rfl,rfl,rfl⟩))
       | (exfalso; omega)
  rw [hd,allI,Bool.true_and,hT3] at hi
  clear hd hA hT3 hGP hGM h_rg h_rm h_rq h_rp e1 e2 e3
  repeat' (cbv; first|refine .y ?_|refine .n ?_|refine .s (fun hc=>?_) fun hc=>?_|refine .a fun v hv=>?_|refine .d ?_|refine .u fun vr vn hvr hvn hvl=>?_|fail)
  all_goals (try cbv)
  clear e i1 i0
  refine LoopQ.to (ι:=Int) (fun i=>⟨tab .undef [(1,.ptr 100 0),(210,.agg [.int .i64 c0,.int .i64 c1,.int .i64 c2,.int .i64 c3]),(211,.int .i64 i)],tab .dead [(100,.box (stL rp rg rq rm rl c0 c1 c2 c3 r0 r1 r2 r3 rt ck pr))]⟩)
   (fun i=>(i=0/\b=(okCt c0 w0&&(okCt c1 w1&&(okCt c2 w2&&okCt c3 w3))))\/(i=1/\b=(okCt c1 w1&&(okCt c2 w2&&okCt c3 w3)))\/(i=2/\b=(okCt c2 w2&&okCt c3 w3))\/(i=3/\b=okCt c3 w3)\/(i=4/\b=true))
   (fun i=>(4 - i).toNat) 0 (.inl ⟨rfl,hi⟩) rfl fun i hi A hA=>?_
  rcases hi with ⟨rfl,hi⟩|⟨rfl,hi⟩|⟨rfl,hi⟩|⟨rfl,hi⟩|⟨rfl,hi⟩
  ·by_cases hc0:0<=c0/\c0<=1000000/\(c0<=0\/w0.length=0)
   ·rw [show okCt c0 w0=true from decide_eq_true hc0,Bool.true_and] at hi
    repeat' (cbv; first|refine .y ?_|refine .n ?_|refine .s (fun hc=>?_) fun hc=>?_|refine .a fun v hv=>?_|refine .d ?_|refine .u fun vr vn hvr hvn hvl=>?_|fail)
    all_goals (try cbv)
    all_goals first
     | exact hA v _ (.inr (.inl ⟨hv,hi⟩)) (by omega) rfl
     | (exfalso; omega)
   ·rw [show okCt c0 w0=false from decide_eq_false hc0,Bool.false_and] at hi
    repeat' (cbv; first|refine .y ?_|refine .n ?_|refine .s (fun hc=>?_) fun hc=>?_|refine .a fun v hv=>?_|refine .d ?_|refine .u fun vr vn hvr hvn hvl=>?_|fail)
    all_goals (try cbv)
    all_goals first
     | (
        have hbe:b=false:=hi
        subst hbe; (refine hQ _ ?_; exact ⟨rfl,rfl,rfl,rfl,rfl⟩))
     | (exfalso; omega)
  ·by_cases hc0:0<=c1/\c1<=1000000/\(c1<=0\/w1.length=0)
   ·rw [show okCt c1 w1=true from decide_eq_true hc0,Bool.true_and] at hi
    repeat' (cbv; first|refine .y ?_|refine .n ?_|refine .s (fun hc=>?_) fun hc=>?_|refine .a fun v hv=>?_|refine .d ?_|refine .u fun vr vn hvr hvn hvl=>?_|fail)
    all_goals (try cbv)
    all_goals first
     | exact hA v _ (.inr (.inr (.inl ⟨hv,hi⟩))) (by omega) rfl
     | (exfalso; omega)
   ·rw [show okCt c1 w1=false from decide_eq_false hc0,Bool.false_and] at hi
    repeat' (cbv; first|refine .y ?_|refine .n ?_|refine .s (fun hc=>?_) fun hc=>?_|refine .a fun v hv=>?_|refine .d ?_|refine .u fun vr vn hvr hvn hvl=>?_|fail)
    all_goals (try cbv)
    all_goals first
     | (
        have hbe:b=false:=hi
        subst hbe; (refine hQ _ ?_; exact ⟨rfl,rfl,rfl,rfl,rfl⟩))
     | (exfalso; omega)
  ·by_cases hc0:0<=c2/\c2<=1000000/\(c2<=0\/w2.length=0)
   ·rw [show okCt c2 w2=true from decide_eq_true hc0,Bool.true_and] at hi
    repeat' (cbv; first|refine .y ?_|refine .n ?_|refine .s (fun hc=>?_) fun hc=>?_|refine .a fun v hv=>?_|refine .d ?_|refine .u fun vr vn hvr hvn hvl=>?_|fail)
    all_goals (try cbv)
    all_goals first
     | exact hA v _ (.inr (.inr (.inr (.inl ⟨hv,hi⟩)))) (by omega) rfl
     | (exfalso; omega)
   ·rw [show okCt c2 w2=false from decide_eq_false hc0,Bool.false_and] at hi
    repeat' (cbv; first|refine .y ?_|refine .n ?_|refine .s (fun hc=>?_) fun hc=>?_|refine .a fun v hv=>?_|refine .d ?_|refine .u fun vr vn hvr hvn hvl=>?_|fail)
    all_goals (try cbv)
    all_goals first
     | (
        have hbe:b=false:=hi
        subst hbe; (refine hQ _ ?_; exact ⟨rfl,rfl,rfl,rfl,rfl⟩))
     | (exfalso; omega)
  ·by_cases hc0:0<=c3/\c3<=1000000/\(c3<=0\/w3.length=0)
   ·rw [show okCt c3 w3=true from decide_eq_true hc0] at hi
    repeat' (cbv; first|refine .y ?_|refine .n ?_|refine .s (fun hc=>?_) fun hc=>?_|refine .a fun v hv=>?_|refine .d ?_|refine .u fun vr vn hvr hvn hvl=>?_|fail)
    all_goals (try cbv)
    all_goals first
     | exact hA v _ (.inr (.inr (.inr (.inr ⟨hv,hi⟩)))) (by omega) rfl
     | (exfalso; omega)
   ·rw [show okCt c3 w3=false from decide_eq_false hc0] at hi
    repeat' (cbv; first|refine .y ?_|refine .n ?_|refine .s (fun hc=>?_) fun hc=>?_|refine .a fun v hv=>?_|refine .d ?_|refine .u fun vr vn hvr hvn hvl=>?_|fail)
    all_goals (try cbv)
    all_goals first
     | (
        have hbe:b=false:=hi
        subst hbe; (refine hQ _ ?_; exact ⟨rfl,rfl,rfl,rfl,rfl⟩))
     | (exfalso; omega)
  ·repeat' (cbv; first|refine .y ?_|refine .n ?_|refine .s (fun hc=>?_) fun hc=>?_|refine .a fun v hv=>?_|refine .d ?_|refine .u fun vr vn hvr hvn hvl=>?_|fail)
   all_goals (try cbv)
   have hbe:b=true:=by exact hi
   subst hbe; refine hQ _ ?_; exact ⟨rfl,rfl,rfl,rfl,rfl⟩
 ·rw [decide_eq_false hlin,Bool.false_and,Bool.and_false] at hb
  clear cl ct
  cases bp
  all_goals
   try rw [<- hP] at cp
   repeat' (cbv; first|refine .y ?_|refine .n ?_|refine .s (fun hc=>?_) fun hc=>?_|refine .gq cp ?_|refine .a fun v hv=>?_|refine .d ?_|refine .u fun vr vn hvr hvn hvl=>?_|fail)
   all_goals (try cbv)
   all_goals first
    |(
      have hbe:b=false:=hb
      subst hbe; (refine hQ _ ?_; exact ⟨rfl,rfl,rfl,rfl,rfl⟩))
    |(exfalso; omega)
end Go.Ab
