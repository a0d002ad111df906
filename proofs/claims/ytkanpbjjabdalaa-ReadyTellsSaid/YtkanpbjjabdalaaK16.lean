/-
  Where is a G? what is a P's queue? the document's answers.
  A map of places, as data: what it holds behind some puts.
  A G's status, by where it is: the program.
-/
import Derived.Test.YtkanpbjjabdalaaK15
set_option linter.all false
namespace Go.Ab
open Go Go.Proofs
set_option maxRecDepth 100000
theorem freshR_iC (l:List Int):V.freshR (l.map iC)=true:=by
 induction l with
 |nil=>rfl
 |cons x l ih=>simp only [List.map_cons,V.freshR,ih,Bool.and_true]; rfl
def plC (x:Int×Int):List V:=[.int .i64 x.1,.int .i64 x.2]
def atPs:Int->List PD->Int->Int×Int
 |_,[],_=>(3,0)
 |i,p::l,n=>if p.nx=n then (1,i+1) else if 0 < timesL (listR p.r) n then (2,i+1) else atPs (i+1) l n
set_option maxHeartbeats 4000000 in
theorem c68 (s:SD) (hq:s.ps.length<=1000000) (n:Int) (z:Int×Int) (hz:z=atPs 0 s.ps n):CallsV Try.prog 68 [.agg (stC s),.int .i64 n] (.agg (plC z)) [.undef,.undef] true:=by
 obtain ⟨z1,z2⟩:=z
 obtain ⟨prog,gs,ps,ms,gl,c0,c1,c2,c3,w0,w1,w2,w3,ts,ck,pr⟩:=s
 obtain ⟨rp,rg,rq,rm,rl,r0,r1,r2,r3,rt,⟨h_rp,s_rp,l_rp⟩,⟨h_rg,s_rg,l_rg⟩,⟨h_rq,s_rq,l_rq⟩,⟨h_rm,s_rm,l_rm⟩,⟨h_rl,s_rl,l_rl⟩,⟨h_r0,s_r0,l_r0⟩,⟨h_r1,s_r1,l_r1⟩,⟨h_r2,s_r2,l_r2⟩,⟨h_r3,s_r3,l_r3⟩,⟨h_rt,s_rt,l_rt⟩,hst_⟩:=stR prog gs ps ms gl c0 c1 c2 c3 w0 w1 w2 w3 ts ck pr
 dsimp only at hq hz ⊢
 rw [hst_]
 refine callsV_q hD Try.func68 ok68 rfl rfl (by simp only [List.map_cons,List.map_nil,V.sh,V.shL,stL,s_rp,s_rg,s_rq,s_rm,s_rl,s_r0,s_r1,s_r2,s_r3,s_rt]) fun P Q hP hQ=>?_
 clear hst_
 repeat' (cbv; first|refine .y ?_|refine .n ?_|refine .s (fun hc=>?_) fun hc=>?_|refine .a fun v hv=>?_|refine .d ?_|refine .u fun vr vn hvr hvn hvl=>?_|fail)
 all_goals (try cbv)
 refine LoopQ.to (ι:=Int) (fun i=>⟨tab .undef [(1,.int .i64 n),(2,.ptr 100 0),(4,.ptr 101 0),(5,.int .i64 i)],tab .dead [(100,.box (stL rp rg rq rm rl c0 c1 c2 c3 r0 r1 r2 r3 rt ck pr)),(101,.box [.int .i64 0,.int .i64 0])]⟩)
  (fun i=>0<=i/\i.toNat<=ps.length/\(z1,z2)=atPs i (ps.drop i.toNat) n) (fun i=>ps.length - i.toNat) 0 ⟨by omega,by omega,hz⟩ rfl fun i ⟨i0,i1,hi⟩ A hA=>?_
 clear hz
 rcases drop_cases i1 with ⟨e,hd⟩|⟨hlt,x,hd,hx⟩
 ·rw [hd,atPs,Prod.mk.injEq] at hi
  obtain ⟨rfl,rfl⟩:=hi
  repeat' (cbv; first|refine .y ?_|refine .n ?_|refine .s (fun hc=>?_) fun hc=>?_|refine .a fun v hv=>?_|refine .d ?_|refine .u fun vr vn hvr hvn hvl=>?_|fail)
  all_goals (try cbv)
  (refine hQ _ ?_; exact ⟨rfl,rfl,rfl,rfl,rfl⟩)
 ·rw [hd,atPs] at hi
  have ga:=getD_rows h_rq hx
  have cl:=r_rList x.r
  have hl:=listR_len x.r
  obtain ⟨t,ht⟩ : ∃ t,t=timesL (listR x.r) n:=⟨_,rfl⟩
  have ct:=c28 (listR x.r) (by omega) n t ht
  rw [<- ht] at hi
  obtain ⟨q,hq'⟩ : ∃ q,q=listR x.r:=⟨_,rfl⟩
  rw [<- hq'] at cl ct hl
  clear ht hq'
  obtain ⟨x0,x1,⟨x2,x3,x4,x5,x6,x7,x8,x9,x10,x11⟩,x12⟩:=x
  dsimp only at cl hi
  obtain ⟨rw,h_rw⟩ : ∃ r,r=q.map iC:=⟨_,rfl⟩
  have s_rw:V.shR rw=rw:=by rw [h_rw]; exact shR_iC q
  have l_rw:rw.length=q.length:=by simp [h_rw]
  rw [<- h_rw] at cl ct
  try rw [<- hP] at cl
  try rw [<- hP] at ct
  repeat' (cbv; first|refine .y ?_|refine .n ?_|refine .s (fun hc=>?_) fun hc=>?_|refine .row ga ?_|refine .gq cl ?_|refine .gq ct ?_|refine .a fun v hv=>?_|refine .d ?_|refine .u fun vr vn hvr hvn hvl=>?_|fail)
  all_goals (try cbv)
  ·rw [if_pos hc,Prod.mk.injEq] at hi
   obtain ⟨rfl,rfl⟩:=hi
   have hvz:v=i+1:=hv
   subst hvz
   (refine hQ _ ?_; exact ⟨rfl,rfl,rfl,rfl,rfl⟩)
  ·rw [if_neg (by omega),if_pos (by omega),Prod.mk.injEq] at hi
   obtain ⟨rfl,rfl⟩:=hi
   have hvz:v=i+1:=hv
   subst hvz
   (refine hQ _ ?_; exact ⟨rfl,rfl,rfl,rfl,rfl⟩)
  ·rw [if_neg (by omega),if_neg (by omega)] at hi
   exact hA v _ ⟨by omega,by omega,by rw [hi,show v.toNat=i.toNat+1 by omega,hv]⟩ (by omega) rfl
def placeS (s:SD) (n:Int):Int×Int :=
 if ¬ (1<=n/\n.toNat<=s.gs.length)\/mayS s=false then (0,0)
 else
  let g:=s.gs.getD (n.toNat - 1) default
  if g.st=1 then atPs 0 s.ps n
  else if g.st=2 then (4,g.m)
  else if g.st=4 then (7,g.m)
  else if g.st=5 then (8,0)
  else if 0 < timesL s.w0 n then (5,0)
  else if 0 < timesL s.w1 n then (5,1)
  else if 0 < timesL s.w2 n then (5,2)
  else if 0 < timesL s.w3 n then (5,3)
  else (6,0)
def queueV (s:SD) (p:Int):V :=
 if ¬ (1<=p/\p<=s.pr)\/mayS s=false then .own 1 [] else .sl true 1 ((queueOf (s.ps.getD (p.toNat - 1) default)).map iC)
set_option maxHeartbeats 8000000 in
theorem c24 (s:SD) (hs:Fit s) (n:Int) (z:Int×Int) (hz:z=placeS s n):CallsV Try.prog 24 [.agg (stC s),.int .i64 n] (.agg (plC z)) [.undef,.undef] true:=by
 obtain ⟨bm,hbm⟩ : ∃ b,b=mayS s:=⟨_,rfl⟩
 have cm:=c23 s hs bm hbm
 have hgs:=hs.gs
 obtain ⟨za,hza⟩ : ∃ z,z=atPs 0 s.ps n:=⟨_,rfl⟩
 have ca:=c68 s hs.ps n za hza
 obtain ⟨t0,ht0⟩ : ∃ t,t=timesL s.w0 n:=⟨_,rfl⟩
 obtain ⟨t1,ht1⟩ : ∃ t,t=timesL s.w1 n:=⟨_,rfl⟩
 obtain ⟨t2,ht2⟩ : ∃ t,t=timesL s.w2 n:=⟨_,rfl⟩
 obtain ⟨t3,ht3⟩ : ∃ t,t=timesL s.w3 n:=⟨_,rfl⟩
 have k0:=c28 s.w0 (by have:=hs.w0; omega) n t0 ht0
 have k1:=c28 s.w1 (by have:=hs.w1; omega) n t1 ht1
 have k2:=c28 s.w2 (by have:=hs.w2; omega) n t2 ht2
 have k3:=c28 s.w3 (by have:=hs.w3; omega) n t3 ht3
 unfold placeS at hz
 rw [<- hbm,<- hza,<- ht0,<- ht1,<- ht2,<- ht3] at hz
 clear hbm hza ht0 ht1 ht2 ht3 hs
 obtain ⟨z1,z2⟩:=z
 obtain ⟨za1,za2⟩:=za
 obtain ⟨prog,gs,ps,ms,gl,c0,c1,c2,c3,w0,w1,w2,w3,ts,ck,pr⟩:=s
 obtain ⟨rp,rg,rq,rm,rl,r0,r1,r2,r3,rt,⟨h_rp,s_rp,l_rp⟩,⟨h_rg,s_rg,l_rg⟩,⟨h_rq,s_rq,l_rq⟩,⟨h_rm,s_rm,l_rm⟩,⟨h_rl,s_rl,l_rl⟩,⟨h_r0,s_r0,l_r0⟩,⟨h_r1,s_r1,l_r1⟩,⟨h_r2,s_r2,l_r2⟩,⟨h_r3,s_r3,l_r3⟩,⟨h_rt,s_rt,l_rt⟩,hst_⟩:=stR prog gs ps ms gl c0 c1 c2 c3 w0 w1 w2 w3 ts ck pr
 dsimp only at hgs hz k0 k1 k2 k3
 rw [hst_] at cm ca ⊢
 rw [<- h_r0] at k0
 rw [<- h_r1] at k1
 rw [<- h_r2] at k2
 rw [<- h_r3] at k3
 refine callsV_q hD Try.func24 ok24 rfl rfl (by simp only [List.map_cons,List.map_nil,V.sh,V.shL,stL,s_rp,s_rg,s_rq,s_rm,s_rl,s_r0,s_r1,s_r2,s_r3,s_rt]) fun P Q hP hQ=>?_
 clear hst_ h_rp h_rq h_rl h_r0 h_r1 h_r2 h_r3 h_rt h_rm l_rp l_rq l_rl l_rt l_rm l_r0 l_r1 l_r2 l_r3
 by_cases hn:1<=n/\n.toNat<=gs.length
 ·cases bm with
  |false =>
   rw [if_pos (.inr rfl),Prod.mk.injEq] at hz
   obtain ⟨rfl,rfl⟩:=hz
   try rw [<- hP] at cm
   repeat' (cbv; first|refine .y ?_|refine .n ?_|refine .s (fun hc=>?_) fun hc=>?_|refine .gq cm ?_|refine .a fun v hv=>?_|refine .d ?_|refine .u fun vr vn hvr hvn hvl=>?_|fail)
   all_goals (try cbv)
   (refine hQ _ ?_; exact ⟨rfl,rfl,rfl,rfl,rfl⟩)
  |true =>
  rw [if_neg (by simp only [not_or,Bool.true_eq_false,not_false_eq_true,and_true,Classical.not_not]; exact hn)] at hz
  obtain ⟨x,hx⟩ : ∃ x,gs[n.toNat - 1]?=some x:=⟨_,List.getElem?_eq_getElem (by omega)⟩
  obtain ⟨k,hk⟩ : ∃ k:Int,k=n - 1:=⟨_,rfl⟩
  have ga:rg.getD k.toNat []=gC x:=by rw [show k.toNat=n.toNat - 1 by omega]; exact getD_rows h_rg hx
  rw [getD_of hx] at hz
  obtain ⟨xf,xp,xs,xm,xq⟩:=x
  dsimp only at hz
  clear hx h_rg
  rcases (show xs=1\/xs=2\/xs=4\/xs=5\/(xs≠1/\xs≠2/\xs≠4/\xs≠5) by omega) with e|e|e|e|e
  ·subst e
   rw [if_pos rfl,Prod.mk.injEq] at hz
   obtain ⟨rfl,rfl⟩:=hz
   try rw [<- hP] at cm
   try rw [<- hP] at ca
   repeat' (cbv; first|refine .y ?_|refine .n ?_|refine .s (fun hc=>?_) fun hc=>?_|refine .wn hk ?_|refine .row ga ?_|refine .gq cm ?_|refine .gq ca ?_|refine .a fun v hv=>?_|refine .d ?_|refine .u fun vr vn hvr hvn hvl=>?_|fail)
   all_goals (try cbv)
   (refine hQ _ ?_; exact ⟨rfl,rfl,rfl,rfl,rfl⟩)
  ·subst e
   rw [if_neg (by omega),if_pos rfl,Prod.mk.injEq] at hz
   obtain ⟨rfl,rfl⟩:=hz
   try rw [<- hP] at cm
   repeat' (cbv; first|refine .y ?_|refine .n ?_|refine .s (fun hc=>?_) fun hc=>?_|refine .wn hk ?_|refine .row ga ?_|refine .gq cm ?_|refine .a fun v hv=>?_|refine .d ?_|refine .u fun vr vn hvr hvn hvl=>?_|fail)
   all_goals (try cbv)
   (refine hQ _ ?_; exact ⟨rfl,rfl,rfl,rfl,rfl⟩)
  ·subst e
   rw [if_neg (by omega),if_neg (by omega),if_pos rfl,Prod.mk.injEq] at hz
   obtain ⟨rfl,rfl⟩:=hz
   try rw [<- hP] at cm
   repeat' (cbv; first|refine .y ?_|refine .n ?_|refine .s (fun hc=>?_) fun hc=>?_|refine .wn hk ?_|refine .row ga ?_|refine .gq cm ?_|refine .a fun v hv=>?_|refine .d ?_|refine .u fun vr vn hvr hvn hvl=>?_|fail)
   all_goals (try cbv)
   (refine hQ _ ?_; exact ⟨rfl,rfl,rfl,rfl,rfl⟩)
  ·subst e
   rw [if_neg (by omega),if_neg (by omega),if_neg (by omega),if_pos rfl,Prod.mk.injEq] at hz
   obtain ⟨rfl,rfl⟩:=hz
   try rw [<- hP] at cm
   repeat' (cbv; first|refine .y ?_|refine .n ?_|refine .s (fun hc=>?_) fun hc=>?_|refine .wn hk ?_|refine .row ga ?_|refine .gq cm ?_|refine .a fun v hv=>?_|refine .d ?_|refine .u fun vr vn hvr hvn hvl=>?_|fail)
   all_goals (try cbv)
   (refine hQ _ ?_; exact ⟨rfl,rfl,rfl,rfl,rfl⟩)
  ·rw [if_neg (by omega),if_neg (by omega),if_neg (by omega),if_neg (by omega)] at hz
   try rw [<- hP] at cm
   repeat' (cbv; first|refine .y ?_|refine .n ?_|refine .s (fun hc=>?_) fun hc=>?_|refine .wn hk ?_|refine .row ga ?_|refine .gq cm ?_|refine .a fun v hv=>?_|refine .d ?_|refine .u fun vr vn hvr hvn hvl=>?_|fail)
   all_goals (try cbv)
   refine LoopQ.to (ι:=Int) (fun i=>⟨tab .undef [(1,.int .i64 n),(2,.ptr 100 0),(4,.ptr 101 0),(6,.int .i64 i)],tab .dead [(100,.box (stL rp rg rq rm rl c0 c1 c2 c3 r0 r1 r2 r3 rt ck pr)),(101,.box [.int .i64 0,.int .i64 0])]⟩)
    (fun i=>(i=0/\(z1,z2)=if 0 < t0 then (5,0) else if 0 < t1 then (5,1) else if 0 < t2 then (5,2) else if 0 < t3 then (5,3) else (6,0))\/(i=1/\(z1,z2)=if 0 < t1 then (5,1) else if 0 < t2 then (5,2) else if 0 < t3 then (5,3) else (6,0))\/(i=2/\(z1,z2)=if 0 < t2 then (5,2) else if 0 < t3 then (5,3) else (6,0))\/(i=3/\(z1,z2)=if 0 < t3 then (5,3) else (6,0))\/(i=4/\(z1,z2)=(6,0)))
    (fun i=>(4 - i).toNat) 0 (.inl ⟨rfl,hz⟩) rfl fun i hi A hA=>?_
   clear hz
   rcases hi with ⟨rfl,hi⟩|⟨rfl,hi⟩|⟨rfl,hi⟩|⟨rfl,hi⟩|⟨rfl,hi⟩
   ·try rw [<- hP] at k0
    repeat' (cbv; first|refine .y ?_|refine .n ?_|refine .s (fun hc=>?_) fun hc=>?_|refine .gq k0 ?_|refine .a fun v hv=>?_|refine .d ?_|refine .u fun vr vn hvr hvn hvl=>?_|fail)
    all_goals (try cbv)
    ·rw [if_pos (by omega),Prod.mk.injEq] at hi
     obtain ⟨rfl,rfl⟩:=hi
     (refine hQ _ ?_; exact ⟨rfl,rfl,rfl,rfl,rfl⟩)
    ·rw [if_neg (by omega)] at hi
     exact hA v _ (.inr (.inl ⟨hv,hi⟩)) (by omega) rfl
   ·try rw [<- hP] at k1
    repeat' (cbv; first|refine .y ?_|refine .n ?_|refine .s (fun hc=>?_) fun hc=>?_|refine .gq k1 ?_|refine .a fun v hv=>?_|refine .d ?_|refine .u fun vr vn hvr hvn hvl=>?_|fail)
    all_goals (try cbv)
    ·rw [if_pos (by omega),Prod.mk.injEq] at hi
     obtain ⟨rfl,rfl⟩:=hi
     (refine hQ _ ?_; exact ⟨rfl,rfl,rfl,rfl,rfl⟩)
    ·rw [if_neg (by omega)] at hi
     exact hA v _ (.inr (.inr (.inl ⟨hv,hi⟩))) (by omega) rfl
   ·try rw [<- hP] at k2
    repeat' (cbv; first|refine .y ?_|refine .n ?_|refine .s (fun hc=>?_) fun hc=>?_|refine .gq k2 ?_|refine .a fun v hv=>?_|refine .d ?_|refine .u fun vr vn hvr hvn hvl=>?_|fail)
    all_goals (try cbv)
    ·rw [if_pos (by omega),Prod.mk.injEq] at hi
     obtain ⟨rfl,rfl⟩:=hi
     (refine hQ _ ?_; exact ⟨rfl,rfl,rfl,rfl,rfl⟩)
    ·rw [if_neg (by omega)] at hi
     exact hA v _ (.inr (.inr (.inr (.inl ⟨hv,hi⟩)))) (by omega) rfl
   ·try rw [<- hP] at k3
    repeat' (cbv; first|refine .y ?_|refine .n ?_|refine .s (fun hc=>?_) fun hc=>?_|refine .gq k3 ?_|refine .a fun v hv=>?_|refine .d ?_|refine .u fun vr vn hvr hvn hvl=>?_|fail)
    all_goals (try cbv)
    ·rw [if_pos (by omega),Prod.mk.injEq] at hi
     obtain ⟨rfl,rfl⟩:=hi
     (refine hQ _ ?_; exact ⟨rfl,rfl,rfl,rfl,rfl⟩)
    ·rw [if_neg (by omega)] at hi
     exact hA v _ (.inr (.inr (.inr (.inr ⟨hv,hi⟩)))) (by omega) rfl
   ·rw [Prod.mk.injEq] at hi
    obtain ⟨rfl,rfl⟩:=hi
    repeat' (cbv; first|refine .y ?_|refine .n ?_|refine .s (fun hc=>?_) fun hc=>?_|refine .a fun v hv=>?_|refine .d ?_|refine .u fun vr vn hvr hvn hvl=>?_|fail)
    all_goals (try cbv)
    (refine hQ _ ?_; exact ⟨rfl,rfl,rfl,rfl,rfl⟩)
 ·rw [if_pos (.inl hn),Prod.mk.injEq] at hz
  obtain ⟨rfl,rfl⟩:=hz
  try rw [<- hP] at cm
  repeat' (cbv; first|refine .y ?_|refine .n ?_|refine .s (fun hc=>?_) fun hc=>?_|refine .gq cm ?_|refine .a fun v hv=>?_|refine .d ?_|refine .u fun vr vn hvr hvn hvl=>?_|fail)
  all_goals (try cbv)
  all_goals first
   |(refine hQ _ ?_; exact ⟨rfl,rfl,rfl,rfl,rfl⟩)
   |(exfalso; omega)
set_option maxHeartbeats 4000000 in
theorem c25 (s:SD) (hs:Fit s) (p:Int):CallsV Try.prog 25 [.agg (stC s),.int .i64 p] (queueV s p) [.undef,.undef] true:=by
 obtain ⟨bm,hbm⟩ : ∃ b,b=mayS s:=⟨_,rfl⟩
 have cm:=c23 s hs bm hbm
 have hl:mayS s=true->s.ps.length=8/\s.pr<=8:=fun h=>by
  unfold mayS at h
  simp only [Bool.and_eq_true,decide_eq_true_eq] at h
  exact ⟨h.2.1.2.2.1,h.2.1.2.2.2.2.1⟩
 unfold queueV
 by_cases hc:¬ (1<=p/\p<=s.pr)\/mayS s=false
 ·rw [if_pos hc]
  rw [<- hbm] at hc hl
  clear hbm hs
  obtain ⟨prog,gs,ps,ms,gl,c0,c1,c2,c3,w0,w1,w2,w3,ts,ck,pr⟩:=s
  obtain ⟨rp,rg,rq,rm,rl,r0,r1,r2,r3,rt,⟨h_rp,s_rp,l_rp⟩,⟨h_rg,s_rg,l_rg⟩,⟨h_rq,s_rq,l_rq⟩,⟨h_rm,s_rm,l_rm⟩,⟨h_rl,s_rl,l_rl⟩,⟨h_r0,s_r0,l_r0⟩,⟨h_r1,s_r1,l_r1⟩,⟨h_r2,s_r2,l_r2⟩,⟨h_r3,s_r3,l_r3⟩,⟨h_rt,s_rt,l_rt⟩,hst_⟩:=stR prog gs ps ms gl c0 c1 c2 c3 w0 w1 w2 w3 ts ck pr
  dsimp only at hc hl ⊢
  rw [hst_] at cm ⊢
  refine callsV_q hD Try.func25 ok25 rfl rfl (by simp only [List.map_cons,List.map_nil,V.sh,V.shL,stL,s_rp,s_rg,s_rq,s_rm,s_rl,s_r0,s_r1,s_r2,s_r3,s_rt]) fun P Q hP hQ=>?_
  by_cases hp:1<=p/\p<=pr
  ·obtain rfl:bm=false:=hc.elim (fun h=>absurd hp h) id
   clear hc
   try rw [<- hP] at cm
   repeat' (cbv; first|refine .y ?_|refine .n ?_|refine .s (fun hc=>?_) fun hc=>?_|refine .gq cm ?_|refine .a fun v hv=>?_|refine .d ?_|refine .u fun vr vn hvr hvn hvl=>?_|fail)
   all_goals (try cbv)
   (refine hQ _ ?_; exact ⟨rfl,rfl,rfl,rfl,rfl⟩)
  ·clear hc hl
   have hp':p < 1\/pr < p:=by omega
   clear hp
   rcases hp' with hp|hp
   all_goals
    repeat' (cbv; first|refine .y ?_|refine .n ?_|refine .s (fun hc=>?_) fun hc=>?_|refine .a fun v hv=>?_|refine .d ?_|refine .u fun vr vn hvr hvn hvl=>?_|fail)
    all_goals (try cbv)
    all_goals first
     |(refine hQ _ ?_; exact ⟨rfl,rfl,rfl,rfl,rfl⟩)
     |(exfalso; omega)
 ·rw [if_neg hc]
  have hb:bm=true:=by rw [hbm]; cases h:mayS s <;> simp_all
  subst hb
  have hl':=hl hbm.symm
  clear hl hbm hs
  have hp:1<=p/\p<=s.pr:=by simp only [not_or,Classical.not_not] at hc; exact hc.1
  clear hc
  obtain ⟨x,hx⟩ : ∃ x,s.ps[p.toNat - 1]?=some x:=⟨_,List.getElem?_eq_getElem (by omega)⟩
  rw [getD_of hx]
  have cq:=c48 x
  obtain ⟨q,hq⟩ : ∃ q,q=queueOf x:=⟨_,rfl⟩
  rw [<- hq] at cq ⊢
  clear hq
  obtain ⟨rw,h_rw⟩ : ∃ r,r=q.map iC:=⟨_,rfl⟩
  have s_rw:V.shR rw=rw:=by rw [h_rw]; exact shR_iC q
  have l_rw:rw.length=q.length:=by simp [h_rw]
  rw [<- h_rw] at cq ⊢
  obtain ⟨prog,gs,ps,ms,gl,c0,c1,c2,c3,w0,w1,w2,w3,ts,ck,pr⟩:=s
  obtain ⟨rp,rg,rq,rm,rl,r0,r1,r2,r3,rt,⟨h_rp,s_rp,l_rp⟩,⟨h_rg,s_rg,l_rg⟩,⟨h_rq,s_rq,l_rq⟩,⟨h_rm,s_rm,l_rm⟩,⟨h_rl,s_rl,l_rl⟩,⟨h_r0,s_r0,l_r0⟩,⟨h_r1,s_r1,l_r1⟩,⟨h_r2,s_r2,l_r2⟩,⟨h_r3,s_r3,l_r3⟩,⟨h_rt,s_rt,l_rt⟩,hst_⟩:=stR prog gs ps ms gl c0 c1 c2 c3 w0 w1 w2 w3 ts ck pr
  dsimp only at hl' hp hx ⊢
  rw [hst_] at cm ⊢
  refine callsV_q hD Try.func25 ok25 rfl rfl (by simp only [List.map_cons,List.map_nil,V.sh,V.shL,stL,s_rp,s_rg,s_rq,s_rm,s_rl,s_r0,s_r1,s_r2,s_r3,s_rt]) fun P Q hP hQ=>?_
  obtain ⟨k,hk⟩ : ∃ k:Int,k=p - 1:=⟨_,rfl⟩
  have ga:rq.getD k.toNat []=pC x:=by rw [show k.toNat=p.toNat - 1 by omega]; exact getD_rows h_rq hx
  clear hx h_rq
  obtain ⟨x0,x1,⟨x2,x3,x4,x5,x6,x7,x8,x9,x10,x11⟩,x12⟩:=x
  try rw [<- hP] at cm
  try rw [<- hP] at cq
  repeat' (cbv; first|refine .y ?_|refine .n ?_|refine .s (fun hc=>?_) fun hc=>?_|refine .wn hk ?_|refine .row ga ?_|refine .gq cm ?_|refine .gq cq ?_|refine .a fun v hv=>?_|refine .d ?_|refine .u fun vr vn hvr hvn hvl=>?_|fail)
  all_goals (try cbv)
  refine hQ _ ⟨rfl,rfl,?_,rfl,rfl⟩
  have hf:V.freshR rw=true:=by rw [h_rw]; exact freshR_iC q
  simp [t25,RV.ev,V.notTup,V.cells,resG,giveC,okGood,V.closed,V.fresh,hf,tab]
theorem c113 (l:List Int) (hl:l.length<=1000000):CallsV Try.prog 113 [.sl false 1 (l.map iC)] (.own 1 (l.map iC)) [.undef] true:=by
 obtain ⟨ra,h_ra⟩ : ∃ r,r=l.map iC:=⟨_,rfl⟩
 have s_ra:V.shR ra=ra:=by rw [h_ra]; exact shR_iC l
 have l_ra:ra.length=l.length:=by simp [h_ra]
 rw [<- h_ra]
 refine callsV_q hD Try.func113 ok113 rfl rfl (by simp only [List.map_cons,List.map_nil,V.sh,V.shL,stL,s_ra]) fun P Q hP hQ=>?_
 repeat' (cbv; first|refine .y ?_|refine .n ?_|refine .s (fun hc=>?_) fun hc=>?_|refine .a fun v hv=>?_|refine .d ?_|refine .u fun vr vn hvr hvn hvl=>?_|fail)
 all_goals (try cbv)
 (subst_vars; refine hQ _ ?_; exact (Leave.own rfl rfl (by simp) (by simp [iC]) (by simp [okRows_app,okRows_cons,okRows_nil,V.fresh,fr_iC,fr_jC,fr_gC,fr_pC,fr_mC,fr_tC,fr_fC,fr_iCf]) rfl))
end Go.Ab

namespace Go.Ab
open Go Go.Proofs
set_option maxRecDepth 100000
abbrev PM:=List (Int×List (Int×Int))
def kM (M:PM):List V:=M.map fun e=>.int .i64 e.1
def vM (M:PM):List V:=M.map fun e=>.own 2 (e.2.map plC)
def addM:PM->Int×Int×Int->PM
 |[],x=>[(x.1,[x.2])]
 |e::M,x=>if e.1=x.1 then (e.1,e.2 ++ [x.2])::M else e::addM M x
def addL (M:PM) (L:List (Int×Int×Int)):PM:=L.foldl addM M
def findM:PM->Int->Option (List (Int×Int))
 |[],_=>none
 |e::M,g=>if e.1=g then some e.2 else findM M g
def sizeM (M:PM):Nat:=(M.map fun e=>e.2.length).sum
theorem find_kv (M:PM) (g:Int):mfind (.int .i64 g) (kM M) (vM M)=(findM M g).map fun l=>.own 2 (l.map plC):=by
 unfold mfind
 induction M with
 |nil=>rfl
 |cons e M ih =>
  simp only [kM,vM,List.map_cons,midx,findM] at ih ⊢
  by_cases h:e.1=g
  ·have e1:(V.int .i64 g).keyIs (.int .i64 e.1)=true:=by simp [V.keyIs,h]
   rw [if_pos e1,if_pos h]; rfl
  ·have e1:¬ (V.int .i64 g).keyIs (.int .i64 e.1)=true:=by simp [V.keyIs]; omega
   rw [if_neg e1,if_neg h,<- ih]
   cases midx (.int .i64 g) (M.map fun e=>V.int .i64 e.1) <;> simp
theorem size_find {M:PM} {g:Int} {l:List (Int×Int)} (h:findM M g=some l):l.length<=sizeM M:=by
 induction M with
 |nil=>cases h
 |cons e M ih =>
  simp only [findM] at h
  simp only [sizeM,List.map_cons,List.sum_cons] at ih ⊢
  split at h
  ·cases h; omega
  ·have:=ih h; omega
theorem size_add (M:PM) (x:Int×Int×Int):sizeM (addM M x)=sizeM M+1:=by
 induction M with
 |nil=>rfl
 |cons e M ih =>
  simp only [addM]
  split
  ·simp only [sizeM,List.map_cons,List.sum_cons,List.length_append,List.length_cons,List.length_nil]; omega
  ·simp only [sizeM,List.map_cons,List.sum_cons] at ih ⊢; omega
theorem mput_add (M:PM) (g:Int) (p:Int×Int) (l:List (Int×Int)) (hl:(findM M g).getD []=l) :
  mput (.int .i64 g) (.own 2 (l.map plC ++ [plC p])) (kM M) (vM M)=(kM (addM M (g,p)),vM (addM M (g,p))):=by
 induction M with
 |nil =>
  simp only [findM,Option.getD_none] at hl
  subst hl
  rfl
 |cons e M ih =>
  simp only [findM] at hl
  simp only [mput,kM,vM,List.map_cons,midx,addM] at ih ⊢
  by_cases h:e.1=g
  ·have e1:(V.int .i64 g).keyIs (.int .i64 e.1)=true:=by simp [V.keyIs,h]
   rw [if_pos h] at hl
   simp only [Option.getD_some] at hl
   subst hl
   rw [if_pos e1,if_pos h]
   simp [h]
  ·have e1:¬ (V.int .i64 g).keyIs (.int .i64 e.1)=true:=by simp [V.keyIs]; omega
   rw [if_neg h] at hl
   have ih:=ih hl
   rw [if_neg e1,if_neg h]
   cases hm:midx (.int .i64 g) (M.map fun e=>V.int .i64 e.1) with
   |none =>
    rw [hm] at ih
    simp only [Prod.mk.injEq] at ih
    simp [ih.1,ih.2]
   |some j =>
    rw [hm] at ih
    simp only [Prod.mk.injEq] at ih
    simp [ih.1,ih.2]
theorem grow_add (M:PM) (g k n:Int):mgrow g k n (kM M) (vM M)=(kM (addM M (g,k,n)),vM (addM M (g,k,n))):=by
 unfold mgrow
 have h:(rows2 (mfind (.int .i64 g) (kM M) (vM M))).getD []=((findM M g).getD []).map plC:=by
  rw [find_kv]
  cases findM M g <;> rfl
 rw [h]
 exact mput_add M g (k,n) _ rfl
theorem grow_need {P:Program} {f:FuncId} (hp:PutC P f) (M:PM) (g:Int) (hM:sizeM M<=1000000000000) :
  PutC P f/\(∀ y∈kM M,(V.int .i64 0).keyLike y=true)/\∃ rows,rows2 (mfind (.int .i64 g) (kM M) (vM M))=some rows/\(rows.length+1) * 16<=140737488355328:=by
 refine ⟨hp,fun y hy=>?_,?_⟩
 ·obtain ⟨e,_,rfl⟩:=List.mem_map.1 hy
  rfl
 ·rw [find_kv]
  cases h:findM M g with
  |none=>exact ⟨[],rfl,by simp⟩
  |some l =>
   have:=size_find h
   exact ⟨_,rfl,by simp; omega⟩
def Go' (F M:PM) (L:List (Int×Int×Int)):Prop:=F=addL M L/\sizeM M+L.length<=100000000000
theorem Go'.step {F M:PM} {x:Int×Int×Int} {L:List (Int×Int×Int)} (h:Go' F M (x::L)):Go' F (addM M x) L:=by
 refine ⟨h.1,?_⟩
 have:=h.2
 rw [size_add]; simp only [List.length_cons] at this; omega
theorem size_addL (M:PM):∀ L:List (Int×Int×Int),sizeM (addL M L)=sizeM M+L.length:=by
 intro L
 induction L generalizing M with
 |nil=>rfl
 |cons x L ih=>simp only [addL,List.foldl_cons,List.length_cons] at ih ⊢; rw [ih,size_add]; omega
theorem Go'.many {F M:PM} {K L:List (Int×Int×Int)} (h:Go' F M (K ++ L)):Go' F (addL M K) L:=by
 refine ⟨by rw [h.1]; simp [addL],?_⟩
 have:=h.2
 rw [size_addL]; simp only [List.length_append] at this; omega
theorem Go'.put {P:Program} {f:FuncId} (hp:PutC P f) {_F M:PM} {ks vs:List V} (hk:ks=kM M) (hv:vs=vM M) (hs:sizeM M<=1000000000000) (g k n:Int) :
  ∃
   M' ks' vs',M'=addM M (g,k,n)/\ks'=kM M'/\vs'=vM M'/\mgrow g k n ks vs=(ks',vs') /\
   (PutC P f/\(∀ y∈ks,(V.int .i64 0).keyLike y=true)/\∃ rows,rows2 (mfind (.int .i64 g) ks vs)=some rows/\(rows.length+1) * 16<=140737488355328):=by
 subst hk hv
 exact ⟨_,_,_,rfl,rfl,rfl,grow_add M g k n,grow_need hp M g hs⟩
def putsP (i:Int) (p:PD):List (Int×Int×Int):=(if p.nx=0 then [] else [(p.nx,1,i+1)]) ++ (listR p.r).map fun g=>(g,2,i+1)
def putsPs:Int->List PD->List (Int×Int×Int)
 |_,[]=>[]
 |i,p::l=>putsP i p ++ putsPs (i+1) l
def putsK (k n:Int) (l:List Int):List (Int×Int×Int):=l.map fun g=>(g,k,n)
def putsT (l:List TD):List (Int×Int×Int):=l.map fun t=>(t.g,6,0)
def putsM1 (i:Int) (m:MD):List (Int×Int×Int):=if m.g≠0 then (if m.p≠0 then [(m.g,4,i+1)] else [(m.g,7,i+1)]) else []
def putsMs:Int->List MD->List (Int×Int×Int)
 |_,[]=>[]
 |i,m::l=>putsM1 i m ++ putsMs (i+1) l
def putsG1 (i:Int) (g:GD):List (Int×Int×Int):=if g.st=5 then [(i+1,8,0)] else []
def putsGs:Int->List GD->List (Int×Int×Int)
 |_,[]=>[]
 |i,g::l=>putsG1 i g ++ putsGs (i+1) l
def putsR (s:SD):List (Int×Int×Int):=putsT s.ts ++ (putsMs 0 s.ms ++ putsGs 0 s.gs)
def putsW (s:SD):List (Int×Int×Int):=putsK 5 0 s.w0 ++ (putsK 5 1 s.w1 ++ (putsK 5 2 s.w2 ++ (putsK 5 3 s.w3 ++ putsR s)))
def puts (s:SD):List (Int×Int×Int):=putsPs 0 s.ps ++ (putsK 3 0 s.gl ++ putsW s)
def allM (s:SD):PM:=addL [] (puts s)
theorem putsPs_len:∀ (l:List PD) (i:Int),(putsPs i l).length<=l.length * 9
 |[],_=>by simp [putsPs]
 |p::l,i=>by
  have:=putsPs_len l (i+1)
  have:=listR_len p.r
  simp only [putsPs,putsP,List.length_append,List.length_map,List.length_cons]
  split <;> simp <;> omega
theorem putsMs_len:∀ (l:List MD) (i:Int),(putsMs i l).length<=l.length
 |[],_=>by simp [putsMs]
 |p::l,i=>by
  have:=putsMs_len l (i+1)
  simp only [putsMs,putsM1,List.length_append,List.length_cons]
  repeat' split
  all_goals simp
  all_goals omega
theorem putsGs_len:∀ (l:List GD) (i:Int),(putsGs i l).length<=l.length
 |[],_=>by simp [putsGs]
 |p::l,i=>by
  have:=putsGs_len l (i+1)
  simp only [putsGs,putsG1,List.length_append,List.length_cons]
  repeat' split
  all_goals simp
  all_goals omega
theorem puts_len {s:SD} (h:Fit s):(puts s).length<=20000000:=by
 have:=putsPs_len s.ps 0
 have:=putsMs_len s.ms 0
 have:=putsGs_len s.gs 0
 have:=h.ps; have:=h.gs; have:=h.ms; have:=h.gl; have:=h.w0; have:=h.w1; have:=h.w2; have:=h.w3; have:=h.ts
 unfold puts putsW putsR putsT putsK
 simp only [List.length_append,List.length_map]
 omega
end Go.Ab

namespace Go.Ab
open Go Go.Proofs
set_option maxRecDepth 100000
def statusOf (k:Int):Int:=if k=1\/k=2\/k=3 then 1 else if k=4 then 2 else if k=5\/k=6 then 3 else if k=7 then 4 else 5
theorem c81 (p:Int×Int) (z:Int) (hz:z=statusOf p.1):CallsV Try.prog 81 [.agg (plC p)] (.int .i64 z) [.undef] true:=by
 obtain ⟨k,n⟩:=p
 unfold statusOf at hz
 dsimp only at hz
 refine callsV_q hD Try.func81 ok81 rfl rfl rfl fun P Q hP hQ=>?_
 repeat' (cbv; first|refine .y ?_|refine .n ?_|refine .s (fun hc=>?_) fun hc=>?_|refine .a fun v hv=>?_|refine .d ?_|refine .u fun vr vn hvr hvn hvl=>?_|fail)
 all_goals (try cbv)
 all_goals
  repeat' split at hz
  all_goals first
   |(exfalso; omega)
   |(subst hz; (refine hQ _ ?_; exact ⟨rfl,rfl,rfl,rfl,rfl⟩))
end Go.Ab
