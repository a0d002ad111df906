/-
  Where is a G? what is a P's queue? the document's answers.
  A copy of a state; a program's state: the document's answers.
  An element of an own slice that is written.
-/
import Derived.Test.YtkanpbjjabdalaaK7
import Derived.Test.YtkanpbjjabdalaaK9
import Derived.Test.YtkanpbjjabdalaaK10
import Derived.Test.YtkanpbjjabdalaaK11
import Derived.Test.YtkanpbjjabdalaaK15
set_option linter.all false
namespace Go.Ab
open Go Go.Proofs
set_option maxRecDepth 100000
theorem freshR_iC (l:List Int):V.freshR (l.map iC)=true:=by
  induction l with
  | nil=>rfl
  | cons x l ih=>simp only [List.map_cons,V.freshR,ih,Bool.and_true]; rfl
def plC (x:Int×Int):List V:=[.int .i64 x.1,.int .i64 x.2]
def atPs:Int→List PD→Int→Int×Int
  | _,[],_=>(3,0)
  | i,p::l,n=>if p.nx=n then (1,i+1) else if 0 < timesL (listR p.r) n then (2,i+1) else atPs (i+1) l n
set_option maxHeartbeats 4000000 in
theorem c68 (s:SD) (hq:s.ps.length≤1000000) (n:Int) (z:Int×Int) (hz:z=atPs 0 s.ps n):CallsV Try.prog 68 [.agg (stC s),.int .i64 n] (.agg (plC z)) [.undef,.undef] true:=by
  obtain ⟨z1,z2⟩:=z
  obtain ⟨prog,gs,ps,ms,gl,c0,c1,c2,c3,w0,w1,w2,w3,ts,ck,pr⟩:=s
  obtain ⟨rp,rg,rq,rm,rl,r0,r1,r2,r3,rt,⟨h_rp,s_rp,l_rp⟩,⟨h_rg,s_rg,l_rg⟩,⟨h_rq,s_rq,l_rq⟩,⟨h_rm,s_rm,l_rm⟩,⟨h_rl,s_rl,l_rl⟩,⟨h_r0,s_r0,l_r0⟩,⟨h_r1,s_r1,l_r1⟩,⟨h_r2,s_r2,l_r2⟩,⟨h_r3,s_r3,l_r3⟩,⟨h_rt,s_rt,l_rt⟩,hst_⟩:=stR prog gs ps ms gl c0 c1 c2 c3 w0 w1 w2 w3 ts ck pr
  dsimp only at hq hz ⊢
  rw [hst_]
  refine callsV_q hD Try.func68 ok68 rfl rfl (by simp only [List.map_cons,List.map_nil,V.sh,V.shL,stL,s_rp,s_rg,s_rq,s_rm,s_rl,s_r0,s_r1,s_r2,s_r3,s_rt]) fun P Q hP hQ=>?_
  clear hst_
  repeat' (cbv; first|refine .y ?_|refine .n ?_|refine .s (fun hc=>?_) fun hc=>?_|refine .a fun v hv=>?_|refine .d ?_|refine .u fun vr vn hvr hvn hvl=>?_|fail)
  all_goals (try cbv)
  refine LoopQ.to (ι:=Int) (fun i=>⟨tab .undef [(1,.int .i64 n),(2,.ptr 100 0),(4,.ptr 101 0),(5,.int .i64 i)],tab .dead [(100,.box (stL rp rg rq rm rl c0 c1 c2 c3 r0 r1 r2 r3 rt ck pr)),(101,.box [.int .i64 0,.int .i64 0])]⟩)
    (fun i=>0≤i∧i.toNat≤ps.length∧(z1,z2)=atPs i (ps.drop i.toNat) n) (fun i=>ps.length - i.toNat) 0 ⟨by omega,by omega,hz⟩ rfl fun i ⟨i0,i1,hi⟩ A hA=>?_
  clear hz
  rcases drop_cases i1 with ⟨e,hd⟩|⟨hlt,x,hd,hx⟩
  · rw [hd,atPs,Prod.mk.injEq] at hi
    obtain ⟨rfl,rfl⟩:=hi
    repeat' (cbv; first|refine .y ?_|refine .n ?_|refine .s (fun hc=>?_) fun hc=>?_|refine .a fun v hv=>?_|refine .d ?_|refine .u fun vr vn hvr hvn hvl=>?_|fail)
    all_goals (try cbv)
    (refine hQ _ ?_; exact ⟨rfl,rfl,rfl,rfl,rfl⟩)
  · rw [hd,atPs] at hi
    have ga:=getD_rows h_rq hx
    have cl:=r_rList x.r
    have hl:=listR_len x.r
    obtain ⟨t,ht⟩ : ∃ t,t=timesL (listR x.r) n:=⟨_,rfl⟩
    have ct:=c28 (listR x.r) (by omega) n t ht
    rw [← ht] at hi
    obtain ⟨q,hq'⟩ : ∃ q,q=listR x.r:=⟨_,rfl⟩
    rw [← hq'] at cl ct hl
    clear ht hq'
    obtain ⟨x0,x1,⟨x2,x3,x4,x5,x6,x7,x8,x9,x10,x11⟩,x12⟩:=x
    dsimp only at cl hi
    obtain ⟨rw,h_rw⟩ : ∃ r,r=q.map iC:=⟨_,rfl⟩
    have s_rw:V.shR rw=rw:=by rw [h_rw]; exact shR_iC q
    have l_rw:rw.length=q.length:=by simp [h_rw]
    rw [← h_rw] at cl ct
    try rw [← hP] at cl
    try rw [← hP] at ct
    repeat' (cbv; first|refine .y ?_|refine .n ?_|refine .s (fun hc=>?_) fun hc=>?_|refine .row ga ?_|refine .gq cl ?_|refine .gq ct ?_|refine .a fun v hv=>?_|refine .d ?_|refine .u fun vr vn hvr hvn hvl=>?_|fail)
    all_goals (try cbv)
    · rw [if_pos hc,Prod.mk.injEq] at hi
      obtain ⟨rfl,rfl⟩:=hi
      have hvz:v=i+1:=hv
      subst hvz
      (refine hQ _ ?_; exact ⟨rfl,rfl,rfl,rfl,rfl⟩)
    · rw [if_neg (by omega),if_pos (by omega),Prod.mk.injEq] at hi
      obtain ⟨rfl,rfl⟩:=hi
      have hvz:v=i+1:=hv
      subst hvz
      (refine hQ _ ?_; exact ⟨rfl,rfl,rfl,rfl,rfl⟩)
    · rw [if_neg (by omega),if_neg (by omega)] at hi
      exact hA v _ ⟨by omega,by omega,by rw [hi,show v.toNat=i.toNat+1 by omega,hv]⟩ (by omega) rfl
def placeS (s:SD) (n:Int):Int×Int :=
  if ¬ (1≤n∧n.toNat≤s.gs.length)∨mayS s=false then (0,0)
  else
    let g:=s.gs.getD (n.toNat - 1) default
    if g.st=1 then atPs 0 s.ps n
    else if g.st=2 then (4,g.m)
    else if g.st=4 then (7,g.m)
    else if g.st=5 then (8,0)
    else if 0 < timesL s.w0 n then (5,0)
    else if 0 < timesL s.w1 n then (5,1)
    else if 0 < timesL s.w2 n then (5,2)
    else if 0 < timesL s.w3 n then (5,3)
    else (6,0)
def queueS (s:SD) (p:Int):List Int :=
  if ¬ (1≤p∧p≤s.pr)∨mayS s=false then [] else queueOf (s.ps.getD (p.toNat - 1) default)
def queueV (s:SD) (p:Int):V :=
  if ¬ (1≤p∧p≤s.pr)∨mayS s=false then .own 1 [] else .sl true 1 ((queueOf (s.ps.getD (p.toNat - 1) default)).map iC)
set_option maxHeartbeats 8000000 in
theorem c24 (s:SD) (hs:Fit s) (n:Int) (z:Int×Int) (hz:z=placeS s n):CallsV Try.prog 24 [.agg (stC s),.int .i64 n] (.agg (plC z)) [.undef,.undef] true:=by
  obtain ⟨bm,hbm⟩ : ∃ b,b=mayS s:=⟨_,rfl⟩
  have cm:=c23 s hs bm hbm
  have hgs:=hs.gs
  obtain ⟨za,hza⟩ : ∃ z,z=atPs 0 s.ps n:=⟨_,rfl⟩
  have ca:=c68 s hs.ps n za hza
  obtain ⟨t0,ht0⟩ : ∃ t,t=timesL s.w0 n:=⟨_,rfl⟩
  obtain ⟨t1,ht1⟩ : ∃ t,t=timesL s.w1 n:=⟨_,rfl⟩
  obtain ⟨t2,ht2⟩ : ∃ t,t=timesL s.w2 n:=⟨_,rfl⟩
  obtain ⟨t3,ht3⟩ : ∃ t,t=timesL s.w3 n:=⟨_,rfl⟩
  have k0:=c28 s.w0 (by have:=hs.w0; omega) n t0 ht0
  have k1:=c28 s.w1 (by have:=hs.w1; omega) n t1 ht1
  have k2:=c28 s.w2 (by have:=hs.w2; omega) n t2 ht2
  have k3:=c28 s.w3 (by have:=hs.w3; omega) n t3 ht3
  unfold placeS at hz
  rw [← hbm,← hza,← ht0,← ht1,← ht2,← ht3] at hz
  clear hbm hza ht0 ht1 ht2 ht3 hs
  obtain ⟨z1,z2⟩:=z
  obtain ⟨za1,za2⟩:=za
  obtain ⟨prog,gs,ps,ms,gl,c0,c1,c2,c3,w0,w1,w2,w3,ts,ck,pr⟩:=s
  obtain ⟨rp,rg,rq,rm,rl,r0,r1,r2,r3,rt,⟨h_rp,s_rp,l_rp⟩,⟨h_rg,s_rg,l_rg⟩,⟨h_rq,s_rq,l_rq⟩,⟨h_rm,s_rm,l_rm⟩,⟨h_rl,s_rl,l_rl⟩,⟨h_r0,s_r0,l_r0⟩,⟨h_r1,s_r1,l_r1⟩,⟨h_r2,s_r2,l_r2⟩,⟨h_r3,s_r3,l_r3⟩,⟨h_rt,s_rt,l_rt⟩,hst_⟩:=stR prog gs ps ms gl c0 c1 c2 c3 w0 w1 w2 w3 ts ck pr
  dsimp only at hgs hz k0 k1 k2 k3
  rw [hst_] at cm ca ⊢
  rw [← h_r0] at k0
  rw [← h_r1] at k1
  rw [← h_r2] at k2
  rw [← h_r3] at k3
  refine callsV_q hD Try.func24 ok24 rfl rfl (by simp only [List.map_cons,List.map_nil,V.sh,V.shL,stL,s_rp,s_rg,s_rq,s_rm,s_rl,s_r0,s_r1,s_r2,s_r3,s_rt]) fun P Q hP hQ=>?_
  clear hst_ h_rp h_rq h_rl h_r0 h_r1 h_r2 h_r3 h_rt h_rm l_rp l_rq l_rl l_rt l_rm l_r0 l_r1 l_r2 l_r3
  by_cases hn:1≤n∧n.toNat≤gs.length
  · cases bm with
    | false =>
      rw [if_pos (.inr rfl),Prod.mk.injEq] at hz
      obtain ⟨rfl,rfl⟩:=hz
      try rw [← hP] at cm
      repeat' (cbv; first|refine .y ?_|refine .n ?_|refine .s (fun hc=>?_) fun hc=>?_|refine .gq cm ?_|refine .a fun v hv=>?_|refine .d ?_|refine .u fun vr vn hvr hvn hvl=>?_|fail)
      all_goals (try cbv)
      (refine hQ _ ?_; exact ⟨rfl,rfl,rfl,rfl,rfl⟩)
    | true =>
    rw [if_neg (by simp only [not_or,Bool.true_eq_false,not_false_eq_true,and_true,Classical.not_not]; exact hn)] at hz
    obtain ⟨x,hx⟩ : ∃ x,gs[n.toNat - 1]?=some x:=⟨_,List.getElem?_eq_getElem (by omega)⟩
    obtain ⟨k,hk⟩ : ∃ k:Int,k=n - 1:=⟨_,rfl⟩
    have ga:rg.getD k.toNat []=gC x:=by rw [show k.toNat=n.toNat - 1 by omega]; exact getD_rows h_rg hx
    rw [getD_of hx] at hz
    obtain ⟨xf,xp,xs,xm,xq⟩:=x
    dsimp only at hz
    clear hx h_rg
    rcases (show xs=1∨xs=2∨xs=4∨xs=5∨(xs≠1∧xs≠2∧xs≠4∧xs≠5) by omega) with e|e|e|e|e
    · subst e
      rw [if_pos rfl,Prod.mk.injEq] at hz
      obtain ⟨rfl,rfl⟩:=hz
      try rw [← hP] at cm
      try rw [← hP] at ca
      repeat' (cbv; first|refine .y ?_|refine .n ?_|refine .s (fun hc=>?_) fun hc=>?_|refine .wn hk ?_|refine .row ga ?_|refine .gq cm ?_|refine .gq ca ?_|refine .a fun v hv=>?_|refine .d ?_|refine .u fun vr vn hvr hvn hvl=>?_|fail)
      all_goals (try cbv)
      (refine hQ _ ?_; exact ⟨rfl,rfl,rfl,rfl,rfl⟩)
    · subst e
      rw [if_neg (by omega),if_pos rfl,Prod.mk.injEq] at hz
      obtain ⟨rfl,rfl⟩:=hz
      try rw [← hP] at cm
      repeat' (cbv; first|refine .y ?_|refine .n ?_|refine .s (fun hc=>?_) fun hc=>?_|refine .wn hk ?_|refine .row ga ?_|refine .gq cm ?_|refine .a fun v hv=>?_|refine .d ?_|refine .u fun vr vn hvr hvn hvl=>?_|fail)
      all_goals (try cbv)
      (refine hQ _ ?_; exact ⟨rfl,rfl,rfl,rfl,rfl⟩)
    · subst e
      rw [if_neg (by omega),if_neg (by omega),if_pos rfl,Prod.mk.injEq] at hz
      obtain ⟨rfl,rfl⟩:=hz
      try rw [← hP] at cm
      repeat' (cbv; first|refine .y ?_|refine .n ?_|refine .s (fun hc=>?_) fun hc=>?_|refine .wn hk ?_|refine .row ga ?_|refine .gq cm ?_|refine .a fun v hv=>?_|refine .d ?_|refine .u fun vr vn hvr hvn hvl=>?_|fail)
      all_goals (try cbv)
      (refine hQ _ ?_; exact ⟨rfl,rfl,rfl,rfl,rfl⟩)
    · subst e
      rw [if_neg (by omega),if_neg (by omega),if_neg (by omega),if_pos rfl,Prod.mk.injEq] at hz
      obtain ⟨rfl,rfl⟩:=hz
      try rw [← hP] at cm
      repeat' (cbv; first|refine .y ?_|refine .n ?_|refine .s (fun hc=>?_) fun hc=>?_|refine .wn hk ?_|refine .row ga ?_|refine .gq cm ?_|refine .a fun v hv=>?_|refine .d ?_|refine .u fun vr vn hvr hvn hvl=>?_|fail)
      all_goals (try cbv)
      (refine hQ _ ?_; exact ⟨rfl,rfl,rfl,rfl,rfl⟩)
    · rw [if_neg (by omega),if_neg (by omega),if_neg (by omega),if_neg (by omega)] at hz
      try rw [← hP] at cm
      repeat' (cbv; first|refine .y ?_|refine .n ?_|refine .s (fun hc=>?_) fun hc=>?_|refine .wn hk ?_|refine .row ga ?_|refine .gq cm ?_|refine .a fun v hv=>?_|refine .d ?_|refine .u fun vr vn hvr hvn hvl=>?_|fail)
      all_goals (try cbv)
      refine LoopQ.to (ι:=Int) (fun i=>⟨tab .undef [(1,.int .i64 n),(2,.ptr 100 0),(4,.ptr 101 0),(6,.int .i64 i)],tab .dead [(100,.box (stL rp rg rq rm rl c0 c1 c2 c3 r0 r1 r2 r3 rt ck pr)),(101,.box [.int .i64 0,.int .i64 0])]⟩)
        (fun i=>(i=0∧(z1,z2)=if 0 < t0 then (5,0) else if 0 < t1 then (5,1) else if 0 < t2 then (5,2) else if 0 < t3 then (5,3) else (6,0))∨(i=1∧(z1,z2)=if 0 < t1 then (5,1) else if 0 < t2 then (5,2) else if 0 < t3 then (5,3) else (6,0))∨(i=2∧(z1,z2)=if 0 < t2 then (5,2) else if 0 < t3 then (5,3) else (6,0))∨(i=3∧(z1,z2)=if 0 < t3 then (5,3) else (6,0))∨(i=4∧(z1,z2)=(6,0)))
        (fun i=>(4 - i).toNat) 0 (.inl ⟨rfl,hz⟩) rfl fun i hi A hA=>?_
      clear hz
      rcases hi with ⟨rfl,hi⟩|⟨rfl,hi⟩|⟨rfl,hi⟩|⟨rfl,hi⟩|⟨rfl,hi⟩
      · try rw [← hP] at k0
        repeat' (cbv; first|refine .y ?_|refine .n ?_|refine .s (fun hc=>?_) fun hc=>?_|refine .gq k0 ?_|refine .a fun v hv=>?_|refine .d ?_|refine .u fun vr vn hvr hvn hvl=>?_|fail)
        all_goals (try cbv)
        · rw [if_pos (by omega),Prod.mk.injEq] at hi
          obtain ⟨rfl,rfl⟩:=hi
          (refine hQ _ ?_; exact ⟨rfl,rfl,rfl,rfl,rfl⟩)
        · rw [if_neg (by omega)] at hi
          exact hA v _ (.inr (.inl ⟨hv,hi⟩)) (by omega) rfl
      · try rw [← hP] at k1
        repeat' (cbv; first|refine .y ?_|refine .n ?_|refine .s (fun hc=>?_) fun hc=>?_|refine .gq k1 ?_|refine .a fun v hv=>?_|refine .d ?_|refine .u fun vr vn hvr hvn hvl=>?_|fail)
        all_goals (try cbv)
        · rw [if_pos (by omega),Prod.mk.injEq] at hi
          obtain ⟨rfl,rfl⟩:=hi
          (refine hQ _ ?_; exact ⟨rfl,rfl,rfl,rfl,rfl⟩)
        · rw [if_neg (by omega)] at hi
          exact hA v _ (.inr (.inr (.inl ⟨hv,hi⟩))) (by omega) rfl
      · try rw [← hP] at k2
        repeat' (cbv; first|refine .y ?_|refine .n ?_|refine .s (fun hc=>?_) fun hc=>?_|refine .gq k2 ?_|refine .a fun v hv=>?_|refine .d ?_|refine .u fun vr vn hvr hvn hvl=>?_|fail)
        all_goals (try cbv)
        · rw [if_pos (by omega),Prod.mk.injEq] at hi
          obtain ⟨rfl,rfl⟩:=hi
          (refine hQ _ ?_; exact ⟨rfl,rfl,rfl,rfl,rfl⟩)
        · rw [if_neg (by omega)] at hi
          exact hA v _ (.inr (.inr (.inr (.inl ⟨hv,hi⟩)))) (by omega) rfl
      · try rw [← hP] at k3
        repeat' (cbv; first|refine .y ?_|refine .n ?_|refine .s (fun hc=>?_) fun hc=>?_|refine .gq k3 ?_|refine .a fun v hv=>?_|refine .d ?_|refine .u fun vr vn hvr hvn hvl=>?_|fail)
        all_goals (try cbv)
        · rw [if_pos (by omega),Prod.mk.injEq] at hi
          obtain ⟨rfl,rfl⟩:=hi
          (refine hQ _ ?_; exact ⟨rfl,rfl,rfl,rfl,rfl⟩)
        · rw [if_neg (by omega)] at hi
          exact hA v _ (.inr (.inr (.inr (.inr ⟨hv,hi⟩)))) (by omega) rfl
      · rw [Prod.mk.injEq] at hi
        obtain ⟨rfl,rfl⟩:=hi
        repeat' (cbv; first|refine .y ?_|refine .n ?_|refine .s (fun hc=>?_) fun hc=>?_|refine .a fun v hv=>?_|refine .d ?_|refine .u fun vr vn hvr hvn hvl=>?_|fail)
        all_goals (try cbv)
        (refine hQ _ ?_; exact ⟨rfl,rfl,rfl,rfl,rfl⟩)
  · rw [if_pos (.inl hn),Prod.mk.injEq] at hz
    obtain ⟨rfl,rfl⟩:=hz
    try rw [← hP] at cm
    repeat' (cbv; first|refine .y ?_|refine .n ?_|refine .s (fun hc=>?_) fun hc=>?_|refine .gq cm ?_|refine .a fun v hv=>?_|refine .d ?_|refine .u fun vr vn hvr hvn hvl=>?_|fail)
    all_goals (try cbv)
    all_goals first
      | (refine hQ _ ?_; exact ⟨rfl,rfl,rfl,rfl,rfl⟩)
      | (exfalso; omega)
set_option maxHeartbeats 4000000 in
theorem c25 (s:SD) (hs:Fit s) (p:Int):CallsV Try.prog 25 [.agg (stC s),.int .i64 p] (queueV s p) [.undef,.undef] true:=by
  obtain ⟨bm,hbm⟩ : ∃ b,b=mayS s:=⟨_,rfl⟩
  have cm:=c23 s hs bm hbm
  have hl:mayS s=true→s.ps.length=8∧s.pr≤8:=fun h=>by
    unfold mayS at h
    simp only [Bool.and_eq_true,decide_eq_true_eq] at h
    exact ⟨h.2.1.2.2.1,h.2.1.2.2.2.2.1⟩
  unfold queueV
  by_cases hc:¬ (1≤p∧p≤s.pr)∨mayS s=false
  · rw [if_pos hc]
    rw [← hbm] at hc hl
    clear hbm hs
    obtain ⟨prog,gs,ps,ms,gl,c0,c1,c2,c3,w0,w1,w2,w3,ts,ck,pr⟩:=s
    obtain ⟨rp,rg,rq,rm,rl,r0,r1,r2,r3,rt,⟨h_rp,s_rp,l_rp⟩,⟨h_rg,s_rg,l_rg⟩,⟨h_rq,s_rq,l_rq⟩,⟨h_rm,s_rm,l_rm⟩,⟨h_rl,s_rl,l_rl⟩,⟨h_r0,s_r0,l_r0⟩,⟨h_r1,s_r1,l_r1⟩,⟨h_r2,s_r2,l_r2⟩,⟨h_r3,s_r3,l_r3⟩,⟨h_rt,s_rt,l_rt⟩,hst_⟩:=stR prog gs ps ms gl c0 c1 c2 c3 w0 w1 w2 w3 ts ck pr
    dsimp only at hc hl ⊢
    rw [hst_] at cm ⊢
    refine callsV_q hD Try.func25 ok25 rfl rfl (by simp only [List.map_cons,List.map_nil,V.sh,V.shL,stL,s_rp,s_rg,s_rq,s_rm,s_rl,s_r0,s_r1,s_r2,s_r3,s_rt]) fun P Q hP hQ=>?_
    by_cases hp:1≤p∧p≤pr
    · obtain rfl:bm=false:=hc.elim (fun h=>absurd hp h) id
      clear hc
      try rw [← hP] at cm
      repeat' (cbv; first|refine .y ?_|refine .n ?_|refine .s (fun hc=>?_) fun hc=>?_|refine .gq cm ?_|refine .a fun v hv=>?_|refine .d ?_|refine .u fun vr vn hvr hvn hvl=>?_|fail)
      all_goals (try cbv)
      (refine hQ _ ?_; exact ⟨rfl,rfl,rfl,rfl,rfl⟩)
    · clear hc hl
      have hp':p < 1∨pr < p:=by omega
      clear hp
      rcases hp' with hp|hp
      all_goals
        repeat' (cbv; first|refine .y ?_|refine .n ?_|refine .s (fun hc=>?_) fun hc=>?_|refine .a fun v hv=>?_|refine .d ?_|refine .u fun vr vn hvr hvn hvl=>?_|fail)
        all_goals (try cbv)
        all_goals first
          | (refine hQ _ ?_; exact ⟨rfl,rfl,rfl,rfl,rfl⟩)
          | (exfalso; omega)
  · rw [if_neg hc]
    have hb:bm=true:=by rw [hbm]; cases h:mayS s <;> simp_all
    subst hb
    have hl':=hl hbm.symm
    clear hl hbm hs
    have hp:1≤p∧p≤s.pr:=by simp only [not_or,Classical.not_not] at hc; exact hc.1
    clear hc
    obtain ⟨x,hx⟩ : ∃ x,s.ps[p.toNat - 1]?=some x:=⟨_,List.getElem?_eq_getElem (by omega)⟩
    rw [getD_of hx]
    have cq:=c48 x
    obtain ⟨q,hq⟩ : ∃ q,q=queueOf x:=⟨_,rfl⟩
    rw [← hq] at cq ⊢
    clear hq
    obtain ⟨rw,h_rw⟩ : ∃ r,r=q.map iC:=⟨_,rfl⟩
    have s_rw:V.shR rw=rw:=by rw [h_rw]; exact shR_iC q
    have l_rw:rw.length=q.length:=by simp [h_rw]
    rw [← h_rw] at cq ⊢
    obtain ⟨prog,gs,ps,ms,gl,c0,c1,c2,c3,w0,w1,w2,w3,ts,ck,pr⟩:=s
    obtain ⟨rp,rg,rq,rm,rl,r0,r1,r2,r3,rt,⟨h_rp,s_rp,l_rp⟩,⟨h_rg,s_rg,l_rg⟩,⟨h_rq,s_rq,l_rq⟩,⟨h_rm,s_rm,l_rm⟩,⟨h_rl,s_rl,l_rl⟩,⟨h_r0,s_r0,l_r0⟩,⟨h_r1,s_r1,l_r1⟩,⟨h_r2,s_r2,l_r2⟩,⟨h_r3,s_r3,l_r3⟩,⟨h_rt,s_rt,l_rt⟩,hst_⟩:=stR prog gs ps ms gl c0 c1 c2 c3 w0 w1 w2 w3 ts ck pr
    dsimp only at hl' hp hx ⊢
    rw [hst_] at cm ⊢
    refine callsV_q hD Try.func25 ok25 rfl rfl (by simp only [List.map_cons,List.map_nil,V.sh,V.shL,stL,s_rp,s_rg,s_rq,s_rm,s_rl,s_r0,s_r1,s_r2,s_r3,s_rt]) fun P Q hP hQ=>?_
    obtain ⟨k,hk⟩ : ∃ k:Int,k=p - 1:=⟨_,rfl⟩
    have ga:rq.getD k.toNat []=pC x:=by rw [show k.toNat=p.toNat - 1 by omega]; exact getD_rows h_rq hx
    clear hx h_rq
    obtain ⟨x0,x1,⟨x2,x3,x4,x5,x6,x7,x8,x9,x10,x11⟩,x12⟩:=x
    try rw [← hP] at cm
    try rw [← hP] at cq
    repeat' (cbv; first|refine .y ?_|refine .n ?_|refine .s (fun hc=>?_) fun hc=>?_|refine .wn hk ?_|refine .row ga ?_|refine .gq cm ?_|refine .gq cq ?_|refine .a fun v hv=>?_|refine .d ?_|refine .u fun vr vn hvr hvn hvl=>?_|fail)
    all_goals (try cbv)
    refine hQ _ ⟨rfl,rfl,?_,rfl,rfl⟩
    have hf:V.freshR rw=true:=by rw [h_rw]; exact freshR_iC q
    simp [t25,RV.ev,V.notTup,V.cells,resG,giveC,okGood,V.closed,V.fresh,hf,tab]
end Go.Ab

namespace Go.Ab
open Go Go.Proofs
set_option maxRecDepth 100000
def fT (f:List ID):List V:=[.sl true 2 (f.map jC)]
theorem freshR_jC (l:List ID):V.freshR (l.map jC)=true:=by
  induction l with
  | nil=>rfl
  | cons x l ih=>simp only [List.map_cons,V.freshR,ih,Bool.and_true]; rfl
theorem fr_fT (l:List (List ID)):okRows true (l.map fT)=true:=okRows_map fT (fun f=>by
  have:=freshR_jC f
  simp [fT,V.fresh,this]) l
structure CopI where
  i:Int
  q:V
  o:AO
  rs:List (List V)
def newS (p:List (List ID)) (k:Int):SD:=⟨p,[⟨0,0,1,0,0⟩],List.replicate 8 default,[],[1],0,0,0,0,[],[],[],[],[],0,k⟩
def newV (p:List (List ID)) (k:Int):V :=
  .agg [.sl false 1 (p.map fC),.sl true 5 ((newS p k).gs.map gC),.sl true 13 ((newS p k).ps.map pC),.own 2 [],.sl true 1 ((newS p k).gl.map iC),.int .i64 0,.int .i64 0,.int .i64 0,.int .i64 0,.own 1 [],.own 1 [],.own 1 [],.own 1 [],.own 2 [],.int .i64 0,.int .i64 k]
def zeroV:V :=
  .agg [.own 1 [],.own 5 [],.own 13 [],.own 2 [],.own 1 [],.int .i64 0,.int .i64 0,.int .i64 0,.int .i64 0,.own 1 [],.own 1 [],.own 1 [],.own 1 [],.own 2 [],.int .i64 0,.int .i64 0]
set_option maxHeartbeats 4000000 in
theorem c77 (p:List (List ID)) (hp:p.length≤1000000) (hf:∀ f∈p,f.length≤1000000) (k:Int) (b:Bool) (hb:b=(mayP p&&decide (1≤k∧k≤8))) :
    CallsV Try.prog 77 [.sl false 1 (p.map fC),.int .i64 k] (.tup [if b=true then newV p k else zeroV,.int .i64 (if b=true then 0 else 1)]) [.undef,.undef] false:=by
  obtain ⟨bm,hbm⟩ : ∃ b,b=mayP p:=⟨_,rfl⟩
  have cm:=c59 p hp hf bm hbm
  rw [← hbm] at hb
  clear hbm
  unfold newV
  obtain ⟨ra,h_ra⟩ : ∃ r,r=p.map fC:=⟨_,rfl⟩
  have s_ra:V.shR ra=ra:=by rw [h_ra]; exact shR_fC p
  have l_ra:ra.length=p.length:=by simp [h_ra]
  rw [← h_ra] at cm ⊢
  by_cases hk:1≤k∧k≤8
  · rw [decide_eq_true hk,Bool.and_true] at hb
    subst hb
    cases b with
    | true =>
      rw [if_pos rfl,if_pos rfl]
      refine callsV_q hD Try.func77 ok77 rfl rfl (by simp only [List.map_cons,List.map_nil,V.sh,V.shL,stL,s_ra]) fun P Q hP hQ=>?_
      try rw [← hP] at cm
      repeat' (cbv; first|refine .y ?_|refine .n ?_|refine .s (fun hc=>?_) fun hc=>?_|refine .gq cm ?_|refine .a fun v hv=>?_|refine .d ?_|refine .u fun vr vn hvr hvn hvl=>?_|fail)
      all_goals (try cbv)
      (refine hQ _ ?_; exact ⟨rfl,rfl,rfl,rfl,rfl⟩)
    | false =>
      rw [if_neg (by decide),if_neg (by decide)]
      refine callsV_q hD Try.func77 ok77 rfl rfl (by simp only [List.map_cons,List.map_nil,V.sh,V.shL,stL,s_ra]) fun P Q hP hQ=>?_
      try rw [← hP] at cm
      repeat' (cbv; first|refine .y ?_|refine .n ?_|refine .s (fun hc=>?_) fun hc=>?_|refine .gq cm ?_|refine .a fun v hv=>?_|refine .d ?_|refine .u fun vr vn hvr hvn hvl=>?_|fail)
      all_goals (try cbv)
      (refine hQ _ ?_; exact ⟨rfl,rfl,rfl,rfl,rfl⟩)
  · rw [decide_eq_false hk,Bool.and_false] at hb
    subst hb
    rw [if_neg (by decide),if_neg (by decide)]
    refine callsV_q hD Try.func77 ok77 rfl rfl (by simp only [List.map_cons,List.map_nil,V.sh,V.shL,stL,s_ra]) fun P Q hP hQ=>?_
    cases bm
    all_goals
      try rw [← hP] at cm
      repeat' (cbv; first|refine .y ?_|refine .n ?_|refine .s (fun hc=>?_) fun hc=>?_|refine .gq cm ?_|refine .a fun v hv=>?_|refine .d ?_|refine .u fun vr vn hvr hvn hvl=>?_|fail)
      all_goals (try cbv)
      all_goals first
        | (refine hQ _ ?_; exact ⟨rfl,rfl,rfl,rfl,rfl⟩)
        | (exfalso; omega)
end Go.Ab

namespace Go.Ab
open Go Go.Proofs
set_option maxRecDepth 100000
theorem upd_row {rs:List (List V)} {k:Nat} {row:List V} (hk:k < rs.length) (g:rs.getD k []=row) (off:Nat) (cs:List V) :
    ∃ rs',rs.set k (setR (rs.getD k []) off cs)=rs'∧rs'.getD k []=setR row off cs∧rs'.length=rs.length∧rs'=rs.set k (setR row off cs) :=
  ⟨_,rfl,by rw [g,List.getD_eq_getElem?_getD,List.getElem?_set_self hk]; rfl,by simp,by rw [g]⟩
theorem map_set {α:Type} (f:α→List V) (l:List α) (i:Nat) (x:α):(l.set i x).map f=(l.map f).set i (f x):=by rw [List.map_set]
def stN (rp rg rq rm rl:List (List V)) (c0 c1 c2 c3:Int) (w0 w1 w2 w3 rt:List (List V)) (ck pr:Int):List V :=
  [.own 1 rp,.own 5 rg,.own 13 rq,.own 2 rm,.own 1 rl,.int .i64 c0,.int .i64 c1,.int .i64 c2,.int .i64 c3,.own 1 w0,.own 1 w1,.own 1 w2,.own 1 w3,.own 2 rt,.int .i64 ck,.int .i64 pr]
def stK (rp rg rq rm rl:List (List V)) (c0 c1 c2 c3:Int) (w0 w1 w2 w3 rt:List (List V)) (ck pr:Int):List V :=
  [.own 1 rp,.own 5 rg,.own 13 rq,.own 2 rm,.sl false 1 rl,.int .i64 c0,.int .i64 c1,.int .i64 c2,.int .i64 c3,.sl false 1 w0,.sl false 1 w1,.sl false 1 w2,.sl false 1 w3,.sl false 2 rt,.int .i64 ck,.int .i64 pr]
def stQ (s:SD):List V:=stK (s.prog.map fC) (s.gs.map gC) (s.ps.map pC) (s.ms.map mC) (s.gl.map iC) s.c0 s.c1 s.c2 s.c3 (s.w0.map iC) (s.w1.map iC) (s.w2.map iC) (s.w3.map iC) (s.ts.map tC) s.ck s.pr
theorem stQ_mk (prog:List (List ID)) (gs:List GD) (ps:List PD) (ms:List MD) (gl:List Int) (c0 c1 c2 c3:Int) (w0 w1 w2 w3:List Int) (ts:List TD) (ck pr:Int) :
    stQ ⟨prog,gs,ps,ms,gl,c0,c1,c2,c3,w0,w1,w2,w3,ts,ck,pr⟩=stK (prog.map fC) (gs.map gC) (ps.map pC) (ms.map mC) (gl.map iC) c0 c1 c2 c3 (w0.map iC) (w1.map iC) (w2.map iC) (w3.map iC) (ts.map tC) ck pr:=rfl
def stH (rp rg rq rm rl:List (List V)) (c0 c1 c2 c3:Int) (w0 w1 w2 w3 rt:List (List V)) (ck pr:Int):List V :=
  [.own 1 rp,.own 5 rg,.own 13 rq,.own 2 rm,.own 1 rl,.int .i64 c0,.int .i64 c1,.int .i64 c2,.int .i64 c3,.sl false 1 w0,.sl false 1 w1,.sl false 1 w2,.sl false 1 w3,.sl false 2 rt,.int .i64 ck,.int .i64 pr]
def stR_ (s:SD):List V:=stH (s.prog.map fC) (s.gs.map gC) (s.ps.map pC) (s.ms.map mC) (s.gl.map iC) s.c0 s.c1 s.c2 s.c3 (s.w0.map iC) (s.w1.map iC) (s.w2.map iC) (s.w3.map iC) (s.ts.map tC) s.ck s.pr
theorem stR_mk (prog:List (List ID)) (gs:List GD) (ps:List PD) (ms:List MD) (gl:List Int) (c0 c1 c2 c3:Int) (w0 w1 w2 w3:List Int) (ts:List TD) (ck pr:Int) :
    stR_ ⟨prog,gs,ps,ms,gl,c0,c1,c2,c3,w0,w1,w2,w3,ts,ck,pr⟩=stH (prog.map fC) (gs.map gC) (ps.map pC) (ms.map mC) (gl.map iC) c0 c1 c2 c3 (w0.map iC) (w1.map iC) (w2.map iC) (w3.map iC) (ts.map tC) ck pr:=rfl
end Go.Ab
