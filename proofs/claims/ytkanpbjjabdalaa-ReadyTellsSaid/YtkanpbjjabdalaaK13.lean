/-
  The document's answers: are two states the same? has a state little?
  Rings of states; queues; where Gs stand: the document's answers.
-/
import Derived.Test.YtkanpbjjabdalaaK7
import Derived.Test.YtkanpbjjabdalaaK12
set_option linter.all false
namespace Go.Ab
open Go Go.Proofs
set_option maxRecDepth 100000
set_option maxHeartbeats 4000000 in
theorem c52 (s t:SD) (lq:s.ps.length<=1000000) (lm:s.ms.length<=1000000) (b:Bool) (hb:b=(decide (s.ps=t.ps)&&decide (s.ms=t.ms))):CallsV Try.prog 52 [.agg (stC s),.agg (stC t)] (.bool b) [.undef,.undef] true:=by
 obtain ⟨prog,gs,ps,ms,gl,c0,c1,c2,c3,w0,w1,w2,w3,ts,ck,pr⟩:=s
 obtain ⟨rp,rg,rq,rm,rl,r0,r1,r2,r3,rt,⟨h_rp,s_rp,l_rp⟩,⟨h_rg,s_rg,l_rg⟩,⟨h_rq,s_rq,l_rq⟩,⟨h_rm,s_rm,l_rm⟩,⟨h_rl,s_rl,l_rl⟩,⟨h_r0,s_r0,l_r0⟩,⟨h_r1,s_r1,l_r1⟩,⟨h_r2,s_r2,l_r2⟩,⟨h_r3,s_r3,l_r3⟩,⟨h_rt,s_rt,l_rt⟩,hst_⟩:=stR prog gs ps ms gl c0 c1 c2 c3 w0 w1 w2 w3 ts ck pr
 obtain ⟨yprog,ygs,yps,yms,ygl,yc0,yc1,yc2,yc3,yw0,yw1,yw2,yw3,yts,yck,ypr⟩:=t
 obtain ⟨yrp,yrg,yrq,yrm,yrl,yr0,yr1,yr2,yr3,yrt,⟨h_yrp,s_yrp,l_yrp⟩,⟨h_yrg,s_yrg,l_yrg⟩,⟨h_yrq,s_yrq,l_yrq⟩,⟨h_yrm,s_yrm,l_yrm⟩,⟨h_yrl,s_yrl,l_yrl⟩,⟨h_yr0,s_yr0,l_yr0⟩,⟨h_yr1,s_yr1,l_yr1⟩,⟨h_yr2,s_yr2,l_yr2⟩,⟨h_yr3,s_yr3,l_yr3⟩,⟨h_yrt,s_yrt,l_yrt⟩,hst_y⟩:=stR yprog ygs yps yms ygl yc0 yc1 yc2 yc3 yw0 yw1 yw2 yw3 yts yck ypr
 rw [hst_,hst_y]
 dsimp only at lq lm hb
 refine callsV_q hD Try.func52 ok52 rfl rfl (by simp only [List.map_cons,List.map_nil,V.sh,V.shL,stL,s_rp,s_rg,s_rq,s_rm,s_rl,s_r0,s_r1,s_r2,s_r3,s_rt,s_yrp,s_yrg,s_yrq,s_yrm,s_yrl,s_yr0,s_yr1,s_yr2,s_yr3,s_yrt]) fun P Q hP hQ=>?_
 clear hst_ hst_y
 repeat' (cbv; first|refine .y ?_|refine .n ?_|refine .s (fun hc=>?_) fun hc=>?_|refine .a fun v hv=>?_|refine .d ?_|refine .u fun vr vn hvr hvn hvl=>?_|fail)
 all_goals (try cbv)
 ·have hl:ps.length=yps.length:=by omega
  have hl':ms.length=yms.length:=by omega
  refine LoopQ.to (ι:=Int) (fun i=>⟨tab .undef [(2,.ptr 100 0),(3,.ptr 101 0),(5,.int .i64 i)],tab .dead [(100,.box (stL rp rg rq rm rl c0 c1 c2 c3 r0 r1 r2 r3 rt ck pr)),(101,.box (stL yrp yrg yrq yrm yrl yc0 yc1 yc2 yc3 yr0 yr1 yr2 yr3 yrt yck ypr))]⟩)
   (fun i=>0<=i/\i.toNat<=ps.length/\b=(decide (ps.drop i.toNat=yps.drop i.toNat)&&decide (ms=yms))) (fun i=>ps.length - i.toNat) 0 ⟨by omega,by omega,hb⟩ rfl fun i ⟨i0,i1,hi⟩ A hA=>?_
  rcases drop_cases i1 with ⟨e,hd⟩|⟨hlt,x,hd,hx⟩
  ·rw [hd,List.drop_eq_nil_of_le (by omega),decide_eq_true rfl,Bool.true_and] at hi
   repeat' (cbv; first|refine .y ?_|refine .n ?_|refine .s (fun hc=>?_) fun hc=>?_|refine .a fun v hv=>?_|refine .d ?_|refine .u fun vr vn hvr hvn hvl=>?_|fail)
   all_goals (try cbv)
   refine LoopQ.to (ι:=Int) (fun i=>⟨tab .undef [(2,.ptr 100 0),(3,.ptr 101 0),(6,.int .i64 i)],tab .dead [(100,.box (stL rp rg rq rm rl c0 c1 c2 c3 r0 r1 r2 r3 rt ck pr)),(101,.box (stL yrp yrg yrq yrm yrl yc0 yc1 yc2 yc3 yr0 yr1 yr2 yr3 yrt yck ypr))]⟩)
    (fun i=>0<=i/\i.toNat<=ms.length/\b=decide (ms.drop i.toNat=yms.drop i.toNat)) (fun i=>ms.length - i.toNat) 0 ⟨by omega,by omega,hi⟩ rfl fun i ⟨i0,i1,hi⟩ A hA=>?_
   rcases drop_cases i1 with ⟨e,hd⟩|⟨hlt,x,hd,hx⟩
   ·rw [hd,List.drop_eq_nil_of_le (by omega)] at hi
    repeat' (cbv; first|refine .y ?_|refine .n ?_|refine .s (fun hc=>?_) fun hc=>?_|refine .a fun v hv=>?_|refine .d ?_|refine .u fun vr vn hvr hvn hvl=>?_|fail)
    all_goals (try cbv)
    have hbe:b=true:=by rw [hi]; rfl
    subst hbe; refine hQ _ ?_; exact ⟨rfl,rfl,rfl,rfl,rfl⟩
   ·obtain ⟨_,y,hd',hy⟩:=(drop_cases (l:=yms) (i:=i.toNat) (by omega)).resolve_left (by omega)
    rw [hd,hd',same_cons] at hi
    have ga:=getD_rows h_rm hx
    have gb:=getD_rows h_yrm hy
    obtain ⟨x0,x1⟩:=x
    obtain ⟨y0,y1⟩:=y
    repeat' (cbv; first|refine .y ?_|refine .n ?_|refine .s (fun hc=>?_) fun hc=>?_|refine .row ga ?_|refine .row gb ?_|refine .a fun v hv=>?_|refine .d ?_|refine .u fun vr vn hvr hvn hvl=>?_|fail)
    all_goals (try cbv)
    ·simp only [eqsP,and_true] at hc
     rw [decide_eq_true (by simp only [MD.mk.injEq]; omega),Bool.true_and] at hi
     exact hA _ _ ⟨by omega,by omega,by rw [hi,show v.toNat=i.toNat+1 by omega]⟩ (by omega) rfl
    ·simp only [eqsP,and_true] at hc
     have hbe:b=false:=by rw [hi,decide_eq_false (by simp only [MD.mk.injEq]; omega)]; rfl
     subst hbe; refine hQ _ ?_; exact ⟨rfl,rfl,rfl,rfl,rfl⟩
  ·obtain ⟨_,y,hd',hy⟩:=(drop_cases (l:=yps) (i:=i.toNat) (by omega)).resolve_left (by omega)
   rw [hd,hd',same_cons] at hi
   have ga:=getD_rows h_rq hx
   have gb:=getD_rows h_yrq hy
   obtain ⟨x0,x1,⟨x2,x3,x4,x5,x6,x7,x8,x9,x10,x11⟩,x12⟩:=x
   obtain ⟨y0,y1,⟨y2,y3,y4,y5,y6,y7,y8,y9,y10,y11⟩,y12⟩:=y
   repeat' (cbv; first|refine .y ?_|refine .n ?_|refine .s (fun hc=>?_) fun hc=>?_|refine .row ga ?_|refine .row gb ?_|refine .a fun v hv=>?_|refine .d ?_|refine .u fun vr vn hvr hvn hvl=>?_|fail)
   all_goals (try cbv)
   ·simp only [eqsP,and_true] at hc
    rw [decide_eq_true (by simp only [PD.mk.injEq,RD.mk.injEq]; omega),Bool.true_and] at hi
    exact hA _ _ ⟨by omega,by omega,by rw [hi,show v.toNat=i.toNat+1 by omega]⟩ (by omega) rfl
   ·simp only [eqsP,and_true] at hc
    have hbe:b=false:=by rw [hi,decide_eq_false (by simp only [PD.mk.injEq,RD.mk.injEq]; omega)]; rfl
    subst hbe; refine hQ _ ?_; exact ⟨rfl,rfl,rfl,rfl,rfl⟩
 ·have hbe:b=false:=by rw [hb,decide_eq_false (p:=ms=yms) (fun e=>by subst e; omega),Bool.and_false]
  subst hbe; refine hQ _ ?_; exact ⟨rfl,rfl,rfl,rfl,rfl⟩
 ·have hbe:b=false:=by rw [hb,decide_eq_false (p:=ps=yps) (fun e=>by subst e; omega),Bool.false_and]
  subst hbe; refine hQ _ ?_; exact ⟨rfl,rfl,rfl,rfl,rfl⟩
set_option maxHeartbeats 8000000 in
theorem c20 (s t:SD) (hs:Fit s) (b:Bool) (hb:b=decide (s=t)):CallsV Try.prog 20 [.agg (stC s),.agg (stC t)] (.bool b) [.undef,.undef] true:=by
 obtain ⟨tps,hps⟩ : ∃ x,x=(decide (s.ps=t.ps)&&decide (s.ms=t.ms)):=⟨_,rfl⟩
 have cps:=c52 s t hs.ps hs.ms tps hps
 obtain ⟨prog,gs,ps,ms,gl,c0,c1,c2,c3,w0,w1,w2,w3,ts,ck,pr⟩:=s
 obtain ⟨rp,rg,rq,rm,rl,r0,r1,r2,r3,rt,⟨h_rp,s_rp,l_rp⟩,⟨h_rg,s_rg,l_rg⟩,⟨h_rq,s_rq,l_rq⟩,⟨h_rm,s_rm,l_rm⟩,⟨h_rl,s_rl,l_rl⟩,⟨h_r0,s_r0,l_r0⟩,⟨h_r1,s_r1,l_r1⟩,⟨h_r2,s_r2,l_r2⟩,⟨h_r3,s_r3,l_r3⟩,⟨h_rt,s_rt,l_rt⟩,hst_⟩:=stR prog gs ps ms gl c0 c1 c2 c3 w0 w1 w2 w3 ts ck pr
 obtain ⟨yprog,ygs,yps,yms,ygl,yc0,yc1,yc2,yc3,yw0,yw1,yw2,yw3,yts,yck,ypr⟩:=t
 obtain ⟨yrp,yrg,yrq,yrm,yrl,yr0,yr1,yr2,yr3,yrt,⟨h_yrp,s_yrp,l_yrp⟩,⟨h_yrg,s_yrg,l_yrg⟩,⟨h_yrq,s_yrq,l_yrq⟩,⟨h_yrm,s_yrm,l_yrm⟩,⟨h_yrl,s_yrl,l_yrl⟩,⟨h_yr0,s_yr0,l_yr0⟩,⟨h_yr1,s_yr1,l_yr1⟩,⟨h_yr2,s_yr2,l_yr2⟩,⟨h_yr3,s_yr3,l_yr3⟩,⟨h_yrt,s_yrt,l_yrt⟩,hst_y⟩:=stR yprog ygs yps yms ygl yc0 yc1 yc2 yc3 yw0 yw1 yw2 yw3 yts yck ypr
 obtain ⟨fp,fc,fg,fq,fm,fl,f0,f1,f2,f3,ft⟩:=hs
 dsimp only at hb hps fp fc fg fq fm fl f0 f1 f2 f3 ft
 rw [hst_,hst_y] at cps ⊢
 refine callsV_q hD Try.func20 ok20 rfl rfl (by simp only [List.map_cons,List.map_nil,V.sh,V.shL,stL,s_rp,s_rg,s_rq,s_rm,s_rl,s_r0,s_r1,s_r2,s_r3,s_rt,s_yrp,s_yrg,s_yrq,s_yrm,s_yrl,s_yr0,s_yr1,s_yr2,s_yr3,s_yrt]) fun P Q hP hQ=>?_
 clear hst_ hst_y
 obtain ⟨t0,ht0⟩ : ∃ x,x=decide (w0=yw0):=⟨_,rfl⟩
 obtain ⟨t1,ht1⟩ : ∃ x,x=decide (w1=yw1):=⟨_,rfl⟩
 obtain ⟨t2,ht2⟩ : ∃ x,x=decide (w2=yw2):=⟨_,rfl⟩
 obtain ⟨t3,ht3⟩ : ∃ x,x=decide (w3=yw3):=⟨_,rfl⟩
 obtain ⟨tl,htl⟩ : ∃ x,x=decide (gl=ygl):=⟨_,rfl⟩
 obtain ⟨tp,htp⟩ : ∃ x,x=decide (prog=yprog):=⟨_,rfl⟩
 obtain ⟨tg,htg⟩ : ∃ x,x=decide (gs=ygs):=⟨_,rfl⟩
 obtain ⟨tt,htt⟩ : ∃ x,x=decide (ts=yts):=⟨_,rfl⟩
 have i0:=c26 w0 yw0 (by omega) t0 (by simp [ht0])
 have i1:=c26 w1 yw1 (by omega) t1 (by simp [ht1])
 have i2:=c26 w2 yw2 (by omega) t2 (by simp [ht2])
 have i3:=c26 w3 yw3 (by omega) t3 (by simp [ht3])
 have il:=c26 gl ygl (by omega) tl (by simp [htl])
 have cp:=c50 prog yprog fp fc tp htp
 have cg:=c51 gs ygs fg tg htg
 have ct:=c53 ts yts ft tt htt
 rw [<- h_r0,<- h_yr0] at i0
 rw [<- h_r1,<- h_yr1] at i1
 rw [<- h_r2,<- h_yr2] at i2
 rw [<- h_r3,<- h_yr3] at i3
 rw [<- h_rl,<- h_yrl] at il
 rw [<- h_rp,<- h_yrp] at cp
 rw [<- h_rg,<- h_yrg] at cg
 rw [<- h_rt,<- h_yrt] at ct
 have hall:b=(t0&&t1&&t2&&t3&&tp&&tg&&tps&&tl&&decide (c0=yc0/\c1=yc1/\c2=yc2/\c3=yc3)&&tt&&decide (ck=yck)&&decide (pr=ypr)):=by
  rw [hb,hps,ht0,ht1,ht2,ht3,htl,htp,htg,htt]
  simp only [SD.mk.injEq,Bool.decide_and,<- Bool.and_assoc]
  ac_rfl
 clear hb hps ht0 ht1 ht2 ht3 htl htp htg htt
 repeat' (cbv; first|refine .y ?_|refine .n ?_|refine .s (fun hc=>?_) fun hc=>?_|refine .a fun v hv=>?_|refine .d ?_|refine .u fun vr vn hvr hvn hvl=>?_|fail)
 all_goals (try cbv)
 refine LoopQ.to (ι:=Int) (fun i=>⟨tab .undef [(2,.ptr 100 0),(3,.ptr 101 0),(5,.int .i64 i)],tab .dead [(100,.box (stL rp rg rq rm rl c0 c1 c2 c3 r0 r1 r2 r3 rt ck pr)),(101,.box (stL yrp yrg yrq yrm yrl yc0 yc1 yc2 yc3 yr0 yr1 yr2 yr3 yrt yck ypr))]⟩)
  (fun i=>0<=i/\i<=4/\(1<=i->t0=true)/\(2<=i->t1=true)/\(3<=i->t2=true)/\(4<=i->t3=true)) (fun i=>(4 - i).toNat) 0 ⟨by omega,by omega,by omega,by omega,by omega,by omega⟩ rfl fun i ⟨j0,j1,k0,k1,k2,k3⟩ A hA=>?_
 rcases (show i=0\/i=1\/i=2\/i=3\/i=4 by omega) with e|e|e|e|e <;> subst e
 ·cases t0 with
  |false =>
   try rw [<- hP] at i0
   repeat' (cbv; first|refine .y ?_|refine .n ?_|refine .s (fun hc=>?_) fun hc=>?_|refine .gq i0 ?_|refine .a fun v hv=>?_|refine .d ?_|refine .u fun vr vn hvr hvn hvl=>?_|fail)
   all_goals (try cbv)
   have hbe:b=false:=by rw [hall]; rfl
   subst hbe; refine hQ _ ?_; exact ⟨rfl,rfl,rfl,rfl,rfl⟩
  |true =>
   try rw [<- hP] at i0
   repeat' (cbv; first|refine .y ?_|refine .n ?_|refine .s (fun hc=>?_) fun hc=>?_|refine .gq i0 ?_|refine .a fun v hv=>?_|refine .d ?_|refine .u fun vr vn hvr hvn hvl=>?_|fail)
   all_goals (try cbv)
   obtain rfl:v=1:=by omega
   exact hA 1 _ ⟨by omega,by omega,fun _=>rfl,by omega,by omega,by omega⟩ (by omega) rfl
 ·have:=k0 (by omega); subst this
  cases t1 with
  |false =>
   try rw [<- hP] at i1
   repeat' (cbv; first|refine .y ?_|refine .n ?_|refine .s (fun hc=>?_) fun hc=>?_|refine .gq i1 ?_|refine .a fun v hv=>?_|refine .d ?_|refine .u fun vr vn hvr hvn hvl=>?_|fail)
   all_goals (try cbv)
   have hbe:b=false:=by rw [hall]; rfl
   subst hbe; refine hQ _ ?_; exact ⟨rfl,rfl,rfl,rfl,rfl⟩
  |true =>
   try rw [<- hP] at i1
   repeat' (cbv; first|refine .y ?_|refine .n ?_|refine .s (fun hc=>?_) fun hc=>?_|refine .gq i1 ?_|refine .a fun v hv=>?_|refine .d ?_|refine .u fun vr vn hvr hvn hvl=>?_|fail)
   all_goals (try cbv)
   obtain rfl:v=2:=by omega
   exact hA 2 _ ⟨by omega,by omega,fun _=>rfl,fun _=>rfl,by omega,by omega⟩ (by omega) rfl
 ·have:=k0 (by omega); subst this
  have:=k1 (by omega); subst this
  cases t2 with
  |false =>
   try rw [<- hP] at i2
   repeat' (cbv; first|refine .y ?_|refine .n ?_|refine .s (fun hc=>?_) fun hc=>?_|refine .gq i2 ?_|refine .a fun v hv=>?_|refine .d ?_|refine .u fun vr vn hvr hvn hvl=>?_|fail)
   all_goals (try cbv)
   have hbe:b=false:=by rw [hall]; rfl
   subst hbe; refine hQ _ ?_; exact ⟨rfl,rfl,rfl,rfl,rfl⟩
  |true =>
   try rw [<- hP] at i2
   repeat' (cbv; first|refine .y ?_|refine .n ?_|refine .s (fun hc=>?_) fun hc=>?_|refine .gq i2 ?_|refine .a fun v hv=>?_|refine .d ?_|refine .u fun vr vn hvr hvn hvl=>?_|fail)
   all_goals (try cbv)
   obtain rfl:v=3:=by omega
   exact hA 3 _ ⟨by omega,by omega,fun _=>rfl,fun _=>rfl,fun _=>rfl,by omega⟩ (by omega) rfl
 ·have:=k0 (by omega); subst this
  have:=k1 (by omega); subst this
  have:=k2 (by omega); subst this
  cases t3 with
  |false =>
   try rw [<- hP] at i3
   repeat' (cbv; first|refine .y ?_|refine .n ?_|refine .s (fun hc=>?_) fun hc=>?_|refine .gq i3 ?_|refine .a fun v hv=>?_|refine .d ?_|refine .u fun vr vn hvr hvn hvl=>?_|fail)
   all_goals (try cbv)
   have hbe:b=false:=by rw [hall]; rfl
   subst hbe; refine hQ _ ?_; exact ⟨rfl,rfl,rfl,rfl,rfl⟩
  |true =>
   try rw [<- hP] at i3
   repeat' (cbv; first|refine .y ?_|refine .n ?_|refine .s (fun hc=>?_) fun hc=>?_|refine .gq i3 ?_|refine .a fun v hv=>?_|refine .d ?_|refine .u fun vr vn hvr hvn hvl=>?_|fail)
   all_goals (try cbv)
   obtain rfl:v=4:=by omega
   exact hA 4 _ ⟨by omega,by omega,fun _=>rfl,fun _=>rfl,fun _=>rfl,fun _=>rfl⟩ (by omega) rfl
 ·have:=k0 (by omega); subst this
  have:=k1 (by omega); subst this
  have:=k2 (by omega); subst this
  have:=k3 (by omega); subst this
  simp only [Bool.true_and] at hall
  cases tp with
  |false =>
   try rw [<- hP] at cp
   repeat' (cbv; first|refine .y ?_|refine .n ?_|refine .s (fun hc=>?_) fun hc=>?_|refine .gq cp ?_|refine .a fun v hv=>?_|refine .d ?_|refine .u fun vr vn hvr hvn hvl=>?_|fail)
   all_goals (try cbv)
   have hbe:b=false:=by rw [hall]; rfl
   subst hbe; refine hQ _ ?_; exact ⟨rfl,rfl,rfl,rfl,rfl⟩
  |true =>
  cases tg with
  |false =>
   try rw [<- hP] at cp
   try rw [<- hP] at cg
   repeat' (cbv; first|refine .y ?_|refine .n ?_|refine .s (fun hc=>?_) fun hc=>?_|refine .gq cp ?_|refine .gq cg ?_|refine .a fun v hv=>?_|refine .d ?_|refine .u fun vr vn hvr hvn hvl=>?_|fail)
   all_goals (try cbv)
   have hbe:b=false:=by rw [hall]; rfl
   subst hbe; refine hQ _ ?_; exact ⟨rfl,rfl,rfl,rfl,rfl⟩
  |true =>
  cases tps with
  |false =>
   try rw [<- hP] at cp
   try rw [<- hP] at cg
   try rw [<- hP] at cps
   repeat' (cbv; first|refine .y ?_|refine .n ?_|refine .s (fun hc=>?_) fun hc=>?_|refine .gq cp ?_|refine .gq cg ?_|refine .gq cps ?_|refine .a fun v hv=>?_|refine .d ?_|refine .u fun vr vn hvr hvn hvl=>?_|fail)
   all_goals (try cbv)
   have hbe:b=false:=by rw [hall]; rfl
   subst hbe; refine hQ _ ?_; exact ⟨rfl,rfl,rfl,rfl,rfl⟩
  |true =>
  cases tl with
  |false =>
   try rw [<- hP] at cp
   try rw [<- hP] at cg
   try rw [<- hP] at cps
   try rw [<- hP] at il
   repeat' (cbv; first|refine .y ?_|refine .n ?_|refine .s (fun hc=>?_) fun hc=>?_|refine .gq cp ?_|refine .gq cg ?_|refine .gq cps ?_|refine .gq il ?_|refine .a fun v hv=>?_|refine .d ?_|refine .u fun vr vn hvr hvn hvl=>?_|fail)
   all_goals (try cbv)
   have hbe:b=false:=by rw [hall]; rfl
   subst hbe; refine hQ _ ?_; exact ⟨rfl,rfl,rfl,rfl,rfl⟩
  |true =>
  cases tt with
  |false =>
   try rw [<- hP] at cp
   try rw [<- hP] at cg
   try rw [<- hP] at cps
   try rw [<- hP] at il
   try rw [<- hP] at ct
   repeat' (cbv; first|refine .y ?_|refine .n ?_|refine .s (fun hc=>?_) fun hc=>?_|refine .gq cp ?_|refine .gq cg ?_|refine .gq cps ?_|refine .gq il ?_|refine .gq ct ?_|refine .a fun v hv=>?_|refine .d ?_|refine .u fun vr vn hvr hvn hvl=>?_|fail)
   all_goals (try cbv)
   all_goals
    have hbe:b=false:=by rw [hall,Bool.and_false]; rfl
    subst hbe; (refine hQ _ ?_; exact ⟨rfl,rfl,rfl,rfl,rfl⟩)
  |true =>
   simp only [Bool.true_and,Bool.and_true] at hall
   try rw [<- hP] at cp
   try rw [<- hP] at cg
   try rw [<- hP] at cps
   try rw [<- hP] at il
   try rw [<- hP] at ct
   repeat' (cbv; first|refine .y ?_|refine .n ?_|refine .s (fun hc=>?_) fun hc=>?_|refine .gq cp ?_|refine .gq cg ?_|refine .gq cps ?_|refine .gq il ?_|refine .gq ct ?_|refine .a fun v hv=>?_|refine .d ?_|refine .u fun vr vn hvr hvn hvl=>?_|fail)
   all_goals (try cbv)
   all_goals
    simp only [eqsP,and_true] at *
    first
    |(
      have hbe:b=true:=by rw [hall,decide_eq_true (by omega),decide_eq_true (by omega),decide_eq_true (by omega)]; rfl
      subst hbe; (refine hQ _ ?_; exact ⟨rfl,rfl,rfl,rfl,rfl⟩))
    |(
      have hbe:b=false:=by rw [hall,decide_eq_false (p:=pr=ypr) (by omega),Bool.and_false]
      subst hbe; (refine hQ _ ?_; exact ⟨rfl,rfl,rfl,rfl,rfl⟩))
    |(
      have hbe:b=false:=by rw [hall,decide_eq_false (p:=ck=yck) (by omega),Bool.and_false,Bool.false_and]
      subst hbe; (refine hQ _ ?_; exact ⟨rfl,rfl,rfl,rfl,rfl⟩))
    |(
      have hbe:b=false:=by rw [hall,decide_eq_false (p:=c0=yc0/\c1=yc1/\c2=yc2/\c3=yc3) (by omega),Bool.false_and,Bool.false_and]
      subst hbe; (refine hQ _ ?_; exact ⟨rfl,rfl,rfl,rfl,rfl⟩))
end Go.Ab

namespace Go.Ab
open Go Go.Proofs
set_option maxRecDepth 100000
def RD.f (r:RD):Nat->Int
 |0=>r.b0
 |1=>r.b1
 |2=>r.b2
 |3=>r.b3
 |4=>r.b4
 |5=>r.b5
 |6=>r.b6
 |7=>r.b7
 |_=>0
theorem rC_ring (r:RD):rC r=ringC r.f r.h r.n:=rfl
def mayR (r:RD):Bool:=decide (0<=r.h/\r.h < 8/\0<=r.n/\r.n<=8)&&(List.range 8).all fun i:Nat=>if (i:Int) < r.n then decide (1<=r.f (idx r.h i)) else decide (r.f (idx r.h i)=0)
theorem mayR_iff (r:RD):mayR r=true↔May r.f r.h r.n:=by
 unfold mayR May
 simp only [Bool.and_eq_true,decide_eq_true_eq,List.all_eq_true,List.mem_range]
 constructor
 ·rintro ⟨⟨h0,h1,h2,h3⟩,hall⟩
  refine ⟨h0,h1,h2,h3,fun i i0 i1=>?_⟩
  have:=hall i.toNat (by omega)
  rw [show ((i.toNat:Nat):Int)=i by omega] at this
  split at this
  ·exact ⟨fun _=>by simpa using this,fun _=>by omega⟩
  ·exact ⟨fun _=>by omega,fun _=>by simpa using this⟩
 ·rintro ⟨h0,h1,h2,h3,hall⟩
  refine ⟨⟨h0,h1,h2,h3⟩,fun i hi=>?_⟩
  have:=hall (i:Int) (by omega) (by omega)
  split
  ·rename_i h; simpa using this.1 h
  ·rename_i h; simpa using this.2 (by omega)
def listR (r:RD):List Int:=if mayR r then (List.range r.n.toNat).map fun i:Nat=>r.f (idx r.h i) else []
theorem listR_is {r:RD} (h:mayR r=true):RingIs r.f r.h r.n (listR r):=by
 obtain ⟨h0,h1,m0,m1,hall⟩:=(mayR_iff r).1 h
 unfold listR
 rw [if_pos h]
 refine ⟨h0,h1,by simp; omega,by simp; omega,fun x hx=>?_,fun j hj=>?_⟩
 ·simp only [List.mem_map,List.mem_range] at hx
  obtain ⟨i,hi,rfl⟩:=hx
  exact (hall i (by omega) (by omega)).1 (by omega)
 ·have e:idx r.h ((j - r.h+8) % 8)=j:=by unfold idx; omega
  by_cases c:(j - r.h+8) % 8 < r.n
  ·rw [List.getD_eq_getElem?_getD,List.getElem?_map,List.getElem?_range (by omega)]
   simp only [Option.map_some,Option.getD_some]
   rw [show (((((j:Int) - r.h+8) % 8).toNat:Nat):Int)=(j - r.h+8) % 8 by omega,e]
  ·rw [getD_zero (by simp; omega),<- e]
   exact (hall ((j - r.h+8) % 8) (by omega) (by omega)).2 (by omega)
theorem listR_len (r:RD):(listR r).length<=8:=by
 cases h:mayR r with
 |true=>exact (listR_is h).m1
 |false=>simp [listR,h]
theorem r_rMay (r:RD) (b:Bool) (hb:b=mayR r):CallsV Try.prog 56 [.agg (rC r)] (.bool b) [.undef] true:=by
 rw [rC_ring]; exact c56 r.f r.h r.n b (by rw [hb]; exact mayR_iff r)
theorem r_rList (r:RD):CallsV Try.prog 27 [.agg (rC r)] (.own 1 ((listR r).map iC)) [.undef] true:=by
 cases h:mayR r with
 |true=>rw [rC_ring]; exact c27 r.f r.h r.n (listR r) (listR_is h)
 |false =>
  have e:listR r=[]:=by simp [listR,h]
  rw [e]
  have cm:=r_rMay r false h.symm
  obtain ⟨b0,b1,b2,b3,b4,b5,b6,b7,hh,n⟩:=r
  refine callsV_q hD Try.func27 ok27 rfl rfl rfl fun P Q hP hQ=>?_
  repeat' (cbv; first|refine .y ?_|refine .n ?_|refine .s (fun hc=>?_) fun hc=>?_|refine .a fun v hv=>?_|refine .d ?_|refine .u fun vr vn hvr hvn hvl=>?_|fail)
  all_goals (try cbv)
  refine LoopQ.to (ι:=Unit) (fun _=>⟨tab .undef [(1,.ptr 100 0),(3,.sref 101 0 0),(4,.int .i64 0)],tab .dead [(100,.box (rC ⟨b0,b1,b2,b3,b4,b5,b6,b7,hh,n⟩)),(101,.rows 1 [])]⟩)
   (fun _=>True) (fun _=>0) () trivial rfl fun _ _ A hA=>?_
  try rw [<- hP] at cm
  repeat' (cbv; first|refine .y ?_|refine .n ?_|refine .s (fun hc=>?_) fun hc=>?_|refine .gq cm ?_|refine .a fun v hv=>?_|refine .d ?_|refine .u fun vr vn hvr hvn hvl=>?_|fail)
  all_goals (try cbv)
  (refine hQ _ ?_; exact ⟨rfl,rfl,rfl,rfl,rfl⟩)
def queueOf (p:PD):List Int:=(if p.nx=0 then [] else [p.nx]) ++ listR p.r
theorem queueOf_len (p:PD):(queueOf p).length<=9:=by
 have:=listR_len p.r
 unfold queueOf; split <;> simp <;> omega
set_option maxHeartbeats 1000000 in
theorem c48 (p:PD):CallsV Try.prog 48 [.agg (pC p)] (.own 1 ((queueOf p).map iC)) [.undef] true:=by
 have cl:=r_rList p.r
 have hl:=listR_len p.r
 obtain ⟨q,hq⟩ : ∃ q,q=listR p.r:=⟨_,rfl⟩
 unfold queueOf
 rw [<- hq] at cl hl ⊢
 obtain ⟨m,nx,⟨b0,b1,b2,b3,b4,b5,b6,b7,hh,n⟩,sq⟩:=p
 dsimp only at cl ⊢
 clear hq
 obtain ⟨rl,h_rl⟩ : ∃ r,r=q.map iC:=⟨_,rfl⟩
 have s_rl:V.shR rl=rl:=by rw [h_rl]; exact shR_iC q
 have l_rl:rl.length=q.length:=by simp [h_rl]
 rw [<- h_rl] at cl
 refine callsV_q hD Try.func48 ok48 rfl rfl rfl fun P Q hP hQ=>?_
 try rw [<- hP] at cl
 repeat' (cbv; first|refine .y ?_|refine .n ?_|refine .s (fun hc=>?_) fun hc=>?_|refine .gq cl ?_|refine .a fun v hv=>?_|refine .d ?_|refine .u fun vr vn hvr hvn hvl=>?_|fail)
 all_goals (try cbv)
 ·(subst_vars; refine hQ _ ?_; exact (Leave.own rfl rfl (by simp) (by simp [iC]) (by simp [okRows_app,okRows_cons,okRows_nil,V.fresh,fr_iC,fr_jC,fr_gC,fr_pC,fr_mC,fr_tC,fr_fC,fr_iCf]) rfl))
 ·(subst_vars; refine hQ _ ?_; exact (Leave.own rfl rfl (by simp) (by simp [hc,iC]) (by simp [okRows_app,okRows_cons,okRows_nil,V.fresh,fr_iC,fr_jC,fr_gC,fr_pC,fr_mC,fr_tC,fr_fC,fr_iCf]) rfl))
def timesL (l:List Int) (n:Int):Int:=l.count n
theorem c28 (l:List Int) (hl:l.length<=1000000000) (n z:Int) (hz:z=timesL l n):CallsV Try.prog 28 [.sl false 1 (l.map iC),.int .i64 n] (.int .i64 z) [.undef,.undef] true:=by
 obtain ⟨ra,h_ra⟩ : ∃ r,r=l.map iC:=⟨_,rfl⟩
 have s_ra:V.shR ra=ra:=by rw [h_ra]; exact shR_iC l
 have l_ra:ra.length=l.length:=by simp [h_ra]
 rw [<- h_ra]
 refine callsV_q hD Try.func28 ok28 rfl rfl (by simp only [List.map_cons,List.map_nil,V.sh,V.shL,stL,s_ra]) fun P Q hP hQ=>?_
 obtain ⟨c,hc0⟩ : ∃ c:Nat,c=l.count n:=⟨_,rfl⟩
 have hz':0<=z/\z.toNat=c:=by rw [hz,timesL,hc0]; omega
 clear hz
 repeat' (cbv; first|refine .y ?_|refine .n ?_|refine .s (fun hc=>?_) fun hc=>?_|refine .a fun v hv=>?_|refine .d ?_|refine .u fun vr vn hvr hvn hvl=>?_|fail)
 all_goals (try cbv)
 refine LoopQ.to (ι:=Int×Int) (fun p=>⟨tab .undef [(0,.sl false 1 ra),(1,.int .i64 n),(5,.int .i64 p.2),(6,.int .i64 p.1)],tab .dead []⟩)
  (fun p=>0<=p.1/\p.1.toNat<=l.length/\0<=p.2/\p.2<=p.1/\p.2.toNat+(l.drop p.1.toNat).count n=c) (fun p=>l.length - p.1.toNat) (0,0) ⟨by simp,by simp,by simp,by simp,by simp [hc0]⟩ rfl fun ⟨i,m⟩ ⟨i0,i1,m0,m1,hm⟩ A hA=>?_
 dsimp only at i0 i1 m0 m1 hm ⊢
 rcases drop_cases i1 with ⟨e,hd⟩|⟨hlt,x,hd,hx⟩
 ·rw [hd,List.count_nil] at hm
  repeat' (cbv; first|refine .y ?_|refine .n ?_|refine .s (fun hc=>?_) fun hc=>?_|refine .a fun v hv=>?_|refine .d ?_|refine .u fun vr vn hvr hvn hvl=>?_|fail)
  all_goals (try cbv)
  obtain rfl:z=m:=by omega
  (refine hQ _ ?_; exact ⟨rfl,rfl,rfl,rfl,rfl⟩)
 ·rw [hd,List.count_cons] at hm
  have ga:ra.getD i.toNat []=[.int .i64 x]:=getD_rows h_ra hx
  repeat' (cbv; first|refine .y ?_|refine .n ?_|refine .s (fun hc=>?_) fun hc=>?_|refine .row ga ?_|refine .a fun v hv=>?_|refine .d ?_|refine .u fun vr vn hvr hvn hvl=>?_|fail)
  all_goals (try cbv)
  ·rw [if_pos (by simpa using hc)] at hm
   rename_i w hw
   exact hA (v,w) _ ⟨by dsimp only; omega,by dsimp only; omega,by dsimp only; omega,by dsimp only; omega,by dsimp only; rw [show v.toNat=i.toNat+1 by omega]; omega⟩ (by dsimp only; omega) rfl
  ·rw [if_neg (by simpa using hc)] at hm
   exact hA (v,m) _ ⟨by dsimp only; omega,by dsimp only; omega,by dsimp only; omega,by dsimp only; omega,by dsimp only; rw [show v.toNat=i.toNat+1 by omega]; omega⟩ (by dsimp only; omega) rfl
theorem c64 (l:List Int) (hl:l.length<=1000000000) (n:Int) (b:Bool) (hb:b=l.all fun x=>decide (1<=x/\x<=n)):CallsV Try.prog 64 [.sl false 1 (l.map iC),.int .i64 n] (.bool b) [.undef,.undef] true:=by
 obtain ⟨ra,h_ra⟩ : ∃ r,r=l.map iC:=⟨_,rfl⟩
 have s_ra:V.shR ra=ra:=by rw [h_ra]; exact shR_iC l
 have l_ra:ra.length=l.length:=by simp [h_ra]
 rw [<- h_ra]
 refine callsV_q hD Try.func64 ok64 rfl rfl (by simp only [List.map_cons,List.map_nil,V.sh,V.shL,stL,s_ra]) fun P Q hP hQ=>?_
 repeat' (cbv; first|refine .y ?_|refine .n ?_|refine .s (fun hc=>?_) fun hc=>?_|refine .a fun v hv=>?_|refine .d ?_|refine .u fun vr vn hvr hvn hvl=>?_|fail)
 all_goals (try cbv)
 refine LoopQ.to (ι:=Int) (fun i=>⟨tab .undef [(0,.sl false 1 ra),(1,.int .i64 n),(5,.int .i64 i)],tab .dead []⟩)
  (fun i=>0<=i/\i.toNat<=l.length/\b=(l.drop i.toNat).all fun x=>decide (1<=x/\x<=n)) (fun i=>l.length - i.toNat) 0 ⟨by omega,by omega,hb⟩ rfl fun i ⟨i0,i1,hi⟩ A hA=>?_
 rcases drop_cases i1 with ⟨e,hd⟩|⟨hlt,x,hd,hx⟩
 ·rw [hd] at hi
  repeat' (cbv; first|refine .y ?_|refine .n ?_|refine .s (fun hc=>?_) fun hc=>?_|refine .a fun v hv=>?_|refine .d ?_|refine .u fun vr vn hvr hvn hvl=>?_|fail)
  all_goals (try cbv)
  have hbe:b=true:=by rw [hi]; rfl
  subst hbe; refine hQ _ ?_; exact ⟨rfl,rfl,rfl,rfl,rfl⟩
 ·rw [hd,List.all_cons] at hi
  have ga:ra.getD i.toNat []=[.int .i64 x]:=getD_rows h_ra hx
  repeat' (cbv; first|refine .y ?_|refine .n ?_|refine .s (fun hc=>?_) fun hc=>?_|refine .row ga ?_|refine .a fun v hv=>?_|refine .d ?_|refine .u fun vr vn hvr hvn hvl=>?_|fail)
  all_goals (try cbv)
  ·have hbe:b=false:=by rw [hi,decide_eq_false (by omega)]; rfl
   subst hbe; refine hQ _ ?_; exact ⟨rfl,rfl,rfl,rfl,rfl⟩
  ·have hbe:b=false:=by rw [hi,decide_eq_false (by omega)]; rfl
   subst hbe; refine hQ _ ?_; exact ⟨rfl,rfl,rfl,rfl,rfl⟩
  ·rw [decide_eq_true (by omega),Bool.true_and] at hi
   exact hA _ _ ⟨by omega,by omega,by rw [hi,show v.toNat=i.toNat+1 by omega]⟩ (by omega) rfl
def runnables (s:SD):List Int:=s.ps.flatMap queueOf ++ s.gl
theorem flat_len:∀ (l:List PD),(l.flatMap queueOf).length<=9 * l.length
 |[]=>by simp
 |p::l=>by
  have:=flat_len l
  have:=queueOf_len p
  simp only [List.flatMap_cons,List.length_append,List.length_cons]; omega
structure RunI where
 i:Int
 rs:List (List V)
 n:Nat
set_option maxHeartbeats 4000000 in
theorem c29 (s:SD) (hq:s.ps.length<=1000000) (hg:s.gl.length<=1000000):CallsV Try.prog 29 [.agg (stC s)] (.own 1 ((runnables s).map iC)) [.undef] true:=by
 unfold runnables
 have hfl:=flat_len s.ps
 obtain ⟨prog,gs,ps,ms,gl,c0,c1,c2,c3,w0,w1,w2,w3,ts,ck,pr⟩:=s
 obtain ⟨rp,rg,rq,rm,rl,r0,r1,r2,r3,rt,⟨h_rp,s_rp,l_rp⟩,⟨h_rg,s_rg,l_rg⟩,⟨h_rq,s_rq,l_rq⟩,⟨h_rm,s_rm,l_rm⟩,⟨h_rl,s_rl,l_rl⟩,⟨h_r0,s_r0,l_r0⟩,⟨h_r1,s_r1,l_r1⟩,⟨h_r2,s_r2,l_r2⟩,⟨h_r3,s_r3,l_r3⟩,⟨h_rt,s_rt,l_rt⟩,hst_⟩:=stR prog gs ps ms gl c0 c1 c2 c3 w0 w1 w2 w3 ts ck pr
 dsimp only at hq hg hfl ⊢
 rw [hst_]
 refine callsV_q hD Try.func29 ok29 rfl rfl (by simp only [List.map_cons,List.map_nil,V.sh,V.shL,stL,s_rp,s_rg,s_rq,s_rm,s_rl,s_r0,s_r1,s_r2,s_r3,s_rt]) fun P Q hP hQ=>?_
 clear hst_
 repeat' (cbv; first|refine .y ?_|refine .n ?_|refine .s (fun hc=>?_) fun hc=>?_|refine .a fun v hv=>?_|refine .d ?_|refine .u fun vr vn hvr hvn hvl=>?_|fail)
 all_goals (try cbv)
 refine LoopQ.to (ι:=RunI) (fun p=>⟨tab .undef [(1,.ptr 100 0),(3,.sref 101 0 p.n),(4,.int .i64 p.i)],tab .dead [(100,.box (stL rp rg rq rm rl c0 c1 c2 c3 r0 r1 r2 r3 rt ck pr)),(101,.rows 1 p.rs)]⟩)
  (fun p=>0<=p.i/\p.i.toNat<=ps.length/\p.rs=((ps.take p.i.toNat).flatMap queueOf).map iC/\p.n=p.rs.length) (fun p=>ps.length - p.i.toNat) ⟨0,[],0⟩ ⟨by simp,by simp,by simp,rfl⟩ rfl fun ⟨i,rs,n⟩ ⟨i0,i1,hrs,hn⟩ A hA=>?_
 dsimp only at i0 i1 hrs hn ⊢
 have lrs:rs.length<=9 * i.toNat:=by
  have:=flat_len (ps.take i.toNat)
  rw [hrs,List.length_map]; simp at this ⊢; omega
 rcases drop_cases i1 with ⟨e,hd⟩|⟨hlt,x,hd,hx⟩
 ·rw [e,List.take_length] at hrs
  repeat' (cbv; first|refine .y ?_|refine .n ?_|refine .s (fun hc=>?_) fun hc=>?_|refine .a fun v hv=>?_|refine .d ?_|refine .u fun vr vn hvr hvn hvl=>?_|fail)
  all_goals (try cbv)
  (subst_vars; refine hQ _ ?_; exact (Leave.own rfl rfl (by simp) (by simp [iC]) (by simp [okRows_app,okRows_cons,okRows_nil,V.fresh,fr_iC,fr_jC,fr_gC,fr_pC,fr_mC,fr_tC,fr_fC,fr_iCf]) rfl))
 ·have ga:=getD_rows h_rq hx
  have cq:=c48 x
  have lq:=queueOf_len x
  obtain ⟨q,hq'⟩ : ∃ q,q=queueOf x:=⟨_,rfl⟩
  have ht:=take_succ_of hx
  rw [<- hq'] at cq lq
  have hnext:rs ++ q.map iC=((ps.take (i.toNat+1)).flatMap queueOf).map iC:=by
   rw [ht,List.flatMap_append,List.map_append,<- hrs]; simp [hq']
  clear hrs ht hq'
  obtain ⟨x0,x1,⟨x2,x3,x4,x5,x6,x7,x8,x9,x10,x11⟩,x12⟩:=x
  obtain ⟨rw,h_rw⟩ : ∃ r,r=q.map iC:=⟨_,rfl⟩
  have s_rw:V.shR rw=rw:=by rw [h_rw]; exact shR_iC q
  have l_rw:rw.length=q.length:=by simp [h_rw]
  rw [<- h_rw] at cq hnext
  try rw [<- hP] at cq
  repeat' (cbv; first|refine .y ?_|refine .n ?_|refine .s (fun hc=>?_) fun hc=>?_|refine .row ga ?_|refine .gq cq ?_|refine .a fun v hv=>?_|refine .d ?_|refine .u fun vr vn hvr hvn hvl=>?_|fail)
  all_goals (try cbv)
  exact hA ⟨v,vr,vn⟩ _ ⟨by dsimp only; omega,by dsimp only; omega,by dsimp only; rw [hvr,hnext,show v.toNat=i.toNat+1 by omega],hvn⟩ (by dsimp only; omega) rfl
end Go.Ab
