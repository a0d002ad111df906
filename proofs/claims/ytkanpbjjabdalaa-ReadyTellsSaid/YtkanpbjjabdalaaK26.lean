/-
  All places of a state: the program. (Printed by mkall.py.)
-/
import Derived.Test.YtkanpbjjabdalaaK10
import Derived.Test.YtkanpbjjabdalaaK16
import Derived.Test.YtkanpbjjabdalaaK19
import Derived.Test.YtkanpbjjabdalaaK25
set_option linter.all false
namespace Go.Ab
open Go Go.Proofs
set_option maxRecDepth 100000
def uM (M:PM):List V:=M.map fun e=>.sl true 2 (e.2.map plC)
theorem unown_vM (M:PM):(vM M).map V.unown=uM M:=by
 simp only [vM,uM,List.map_map]
 rfl
theorem freshR_plC (l:List (Int×Int)):V.freshR (l.map plC)=true:=by
 induction l with
 |nil=>rfl
 |cons x l ih=>simp only [List.map_cons,V.freshR,ih,Bool.and_true]; rfl
structure AlI where
 i:Int
 ks:List V
 vs:List V
 M:PM
def decP (k n:Int):List V->Int×Int×Int
 |[.int _ x]=>(x,k,n)
 |_=>(0,0,0)
theorem leave_map {args:List V} {t r:Nat} {ks vs us:List V} {st:St} (h1:st.env t=.mp r) (h2:st.heap r=.mp ks vs) (he:vs.map V.unown=us) (hf:us.all (fun v=>v.closed&&v.fresh)=true) (ha:args.all V.notIo=true) :
  Leave args [.t t] (.ownm ks us) (args.map fun _=>.undef) true st:=by
 obtain ⟨a1,a2,a3,a4⟩:=outL_plain (st:=st) (i:=0) ha
 have hg:giveC st (.mp r)=.ownm ks us:=by simp only [giveC,h2,he]
 refine ⟨by simp [pack,RV.ev,h1,resG,hg],a1.symm,?_,a2,by rw [a3,a4]; simp [RV.ev,h1,V.cells,objC,nodupB,inl]⟩
 simp only [List.all_cons,List.all_nil,Bool.and_true,RV.ev,h1,V.notTup,V.cells,hg,Bool.true_and]
 simp only [okGood,Bool.not_true,Bool.false_or]
 exact hf
theorem uM_ok (M:PM):(uM M).all (fun v=>v.closed&&v.fresh)=true:=by
 simp only [uM,List.all_map,List.all_eq_true,Function.comp]
 intro e _
 simp [V.closed,V.fresh,freshR_plC]
set_option maxHeartbeats 32000000 in
theorem c80 (s:SD) (hs:Fit s) (hm:∀ p∈s.ps,mayR p.r=true):CallsV Try.prog 80 [.agg (stC s)] (.ownm (kM (allM s)) (uM (allM s))) [.undef] true:=by
 have hgo:Go' (allM s) [] (puts s):=⟨rfl,by have:=puts_len hs; simp only [sizeM,List.map_nil,List.sum_nil]; omega⟩
 obtain ⟨F,hF⟩ : ∃ F,F=allM s:=⟨_,rfl⟩
 rw [<- hF] at hgo ⊢
 clear hF
 have hps:=hs.ps
 have hgs:=hs.gs
 have hms:=hs.ms
 have hgl:=hs.gl
 have hw0:=hs.w0
 have hw1:=hs.w1
 have hw2:=hs.w2
 have hw3:=hs.w3
 have hts:=hs.ts
 clear hs
 unfold puts putsW putsR at hgo
 obtain ⟨prog,gs,ps,ms,gl,c0,c1,c2,c3,w0,w1,w2,w3,ts,ck,pr⟩:=s
 obtain ⟨rp,rg,rq,rm,rl,r0,r1,r2,r3,rt,⟨h_rp,s_rp,l_rp⟩,⟨h_rg,s_rg,l_rg⟩,⟨h_rq,s_rq,l_rq⟩,⟨h_rm,s_rm,l_rm⟩,⟨h_rl,s_rl,l_rl⟩,⟨h_r0,s_r0,l_r0⟩,⟨h_r1,s_r1,l_r1⟩,⟨h_r2,s_r2,l_r2⟩,⟨h_r3,s_r3,l_r3⟩,⟨h_rt,s_rt,l_rt⟩,hst_⟩:=stR prog gs ps ms gl c0 c1 c2 c3 w0 w1 w2 w3 ts ck pr
 dsimp only at hgo hm hps hgs hms hgl hw0 hw1 hw2 hw3 hts
 rw [hst_]
 refine callsV_q hD Try.func80 ok80x rfl rfl (by simp only [List.map_cons,List.map_nil,V.sh,V.shL,stL,s_rp,s_rg,s_rq,s_rm,s_rl,s_r0,s_r1,s_r2,s_r3,s_rt]) fun P Q hP hQ=>?_
 clear hst_
 obtain ⟨mq,hmq⟩ : ∃ n:Int,0<=n/\n.toNat=rq.length:=⟨rq.length,by omega,by omega⟩
 obtain ⟨ml,hml⟩ : ∃ n:Int,0<=n/\n.toNat=rl.length:=⟨rl.length,by omega,by omega⟩
 obtain ⟨m0,hm0⟩ : ∃ n:Int,0<=n/\n.toNat=r0.length:=⟨r0.length,by omega,by omega⟩
 obtain ⟨m1,hm1⟩ : ∃ n:Int,0<=n/\n.toNat=r1.length:=⟨r1.length,by omega,by omega⟩
 obtain ⟨m2,hm2⟩ : ∃ n:Int,0<=n/\n.toNat=r2.length:=⟨r2.length,by omega,by omega⟩
 obtain ⟨m3,hm3⟩ : ∃ n:Int,0<=n/\n.toNat=r3.length:=⟨r3.length,by omega,by omega⟩
 obtain ⟨mt,hmt⟩ : ∃ n:Int,0<=n/\n.toNat=rt.length:=⟨rt.length,by omega,by omega⟩
 obtain ⟨mm,hmm⟩ : ∃ n:Int,0<=n/\n.toNat=rm.length:=⟨rm.length,by omega,by omega⟩
 obtain ⟨mg,hmg⟩ : ∃ n:Int,0<=n/\n.toNat=rg.length:=⟨rg.length,by omega,by omega⟩
 have hput:PutC P 109:=hP ▸ c109
 obtain ⟨E8,hE8⟩ : ∃ E,E=putsGs 0 gs:=⟨_,rfl⟩
 obtain ⟨E7,hE7⟩ : ∃ E,E=putsMs 0 ms ++ E8:=⟨_,rfl⟩
 obtain ⟨E6,hE6⟩ : ∃ E,E=putsT ts ++ E7:=⟨_,rfl⟩
 obtain ⟨E5,hE5⟩ : ∃ E,E=putsK 5 3 w3 ++ E6:=⟨_,rfl⟩
 obtain ⟨E4,hE4⟩ : ∃ E,E=putsK 5 2 w2 ++ E5:=⟨_,rfl⟩
 obtain ⟨E3,hE3⟩ : ∃ E,E=putsK 5 1 w1 ++ E4:=⟨_,rfl⟩
 obtain ⟨E2,hE2⟩ : ∃ E,E=putsK 5 0 w0 ++ E3:=⟨_,rfl⟩
 obtain ⟨E1,hE1⟩ : ∃ E,E=putsK 3 0 gl ++ E2:=⟨_,rfl⟩
 rw [<- hE8,<- hE7,<- hE6,<- hE5,<- hE4,<- hE3,<- hE2,<- hE1] at hgo
 repeat' (cbv; first|refine .y ?_|refine .n ?_|refine .s (fun hc=>?_) fun hc=>?_|refine .ln hmq ?_|refine .ln hml ?_|refine .ln hmt ?_|refine .ln hmm ?_|refine .ln hmg ?_|refine .a fun v hv=>?_|refine .d ?_|refine .u fun vr vn hvr hvn hvl=>?_|fail)
 all_goals (try cbv)
 refine LoopQ.to (ι:=AlI) (fun p=>⟨tab .undef [(1,.ptr 100 0),(3,.ptr 102 0),(21,.sl false 13 rq),(22,.int .i64 mq),(23,.int .i64 p.i)],tab .dead [(100,.box (stL rp rg rq rm rl c0 c1 c2 c3 r0 r1 r2 r3 rt ck pr)),(101,.mp p.ks p.vs),(102,.box [.mp 101])]⟩)
  (fun p=>0<=p.i/\p.i.toNat<=ps.length/\p.ks=kM p.M/\p.vs=vM p.M/\Go' F p.M (putsPs p.i (ps.drop p.i.toNat) ++ E1)) (fun p=>ps.length - p.i.toNat) ⟨0,[],[],[]⟩ ⟨by simp,by simp,rfl,rfl,by simpa using hgo⟩ rfl fun ⟨i,ks,vs,M⟩ ⟨i0,i1,hks,hvs,hgo⟩ A hA=>?_
 dsimp only at i0 i1 hks hvs hgo ⊢
 rcases drop_cases i1 with ⟨e,hd⟩|⟨hlt,x,hd,hx⟩
 rotate_left
 ·clear hE1 hE2 hE3 hE4 hE5 hE6 hE7 hE8 hml hm0 hm1 hm2 hm3 hmt hmm hmg hgs hms hgl hw0 hw1 hw2 hw3 hts
  rw [hd,putsPs,List.append_assoc,putsP,List.append_assoc] at hgo
  have ga:=getD_rows h_rq hx
  have hr:=hm x (mem_of_get hx)
  have cl:=Go.Proofs.c110 x.r.f x.r.h x.r.n
  have hy:=Go.Proofs.all_yields x.r.f x.r.h x.r.n (listR x.r) (listR_is hr)
  have hl:=listR_len x.r
  rw [<- rC_ring] at cl hy
  obtain ⟨xs,hxs⟩ : ∃ xs:List (List V),xs=(listR x.r).map fun x=>[.int .i64 x]:=⟨_,rfl⟩
  have hxl:xs.length<=8:=by rw [hxs]; simpa using hl
  have hin:∀ vs∈xs,∃ x:Int,vs=[.int .i64 x]:=fun vs h=>by
   rw [hxs] at h
   obtain ⟨x,_,rfl⟩:=List.mem_map.1 h
   exact ⟨x,rfl⟩
  obtain ⟨j,hj⟩ : ∃ j:Int,j=i+1:=⟨_,rfl⟩
  have hxp:(listR x.r).map (fun g=>(g,2,i+1))=xs.map (decP 2 j):=by rw [hxs,List.map_map,hj]; rfl
  rw [hxp] at hgo
  rw [<- hxs] at hy
  clear hxp hxs hl hr hm
  obtain ⟨xm,nx,⟨b0,b1,b2,b3,b4,b5,b6,b7,hh,n⟩,sq⟩:=x
  dsimp only at cl hy hgo
  have hsz:sizeM M<=100000000000:=by have:=hgo.2; omega
  obtain ⟨M1,ks1,vs1,hk1,hv1,hgo1,hcase⟩ : ∃ M1 ks1 vs1,ks1=kM M1/\vs1=vM M1/\Go' F M1 (xs.map (decP 2 j) ++ (putsPs (i+1) (ps.drop (i.toNat+1)) ++ E1)) /\
    ((nx=0/\ks1=ks/\vs1=vs)\/(nx≠0/\mgrow nx 1 j ks vs=(ks1,vs1)/\(PutC P 109/\(∀ y∈ks,(V.int .i64 0).keyLike y=true)/\∃ rows,rows2 (mfind (.int .i64 nx) ks vs)=some rows/\(rows.length+1) * 16<=140737488355328))):=by
   by_cases e:nx=0
   ·rw [if_pos e] at hgo
    exact ⟨M,ks,vs,hks,hvs,hgo,.inl ⟨e,rfl,rfl⟩⟩
   ·have e3:((nx,1,i+1):Int×Int×Int)=(nx,1,j):=by rw [hj]
    rw [if_neg e,e3] at hgo
    obtain ⟨M',ks',vs',hM',hk',hv',hg,hn⟩:=Go'.put (_F:=F) hput hks hvs (by omega) nx 1 j
    exact ⟨M',ks',vs',hk',hv',by rw [hM']; exact hgo.step,.inr ⟨e,hg,hn⟩⟩
  clear hgo hsz hks hvs
  have hsz:sizeM M1<=100000000000:=by have:=hgo1.2; omega
  rcases hcase with ⟨e,rfl,rfl⟩|⟨e,hg,hn⟩
  all_goals
   try rw [<- hP] at cl
   repeat' (cbv; first|refine .y ?_|refine .n ?_|refine .s (fun hc=>?_) fun hc=>?_|refine .row ga ?_|refine .wn hj ?_|refine MapQ.to hn hg ?_|refine CanQ.to (hP ▸ can_all1) ?_|refine .gq cl ?_|refine .a fun v hv=>?_|refine .d ?_|refine .u fun vr vn hvr hvn hvl=>?_|fail)
   all_goals (try cbv)
   refine RngQ.to (ι:=AlI) (hP ▸ hy) (fun vs h=>by obtain ⟨x,rfl⟩:=hin vs h; exact ⟨rfl,rfl⟩)
    (fun p=>⟨tab .undef [(1,.ptr 100 0),(3,.ptr 102 0),(4,.ptr 103 0),(21,.sl false 13 rq),(22,.int .i64 mq),(23,.int .i64 i)],tab .dead [(100,.box (stL rp rg rq rm rl c0 c1 c2 c3 r0 r1 r2 r3 rt ck pr)),(101,.mp p.ks p.vs),(102,.box [.mp 101]),(103,.box [.int .i64 i])]⟩)
    (fun pre p=>p.ks=kM p.M/\p.vs=vM p.M/\p.M=addL M1 (pre.map (decP 2 j))) ⟨0,ks1,vs1,M1⟩ ⟨hk1,hv1,rfl⟩ rfl (fun pre vs p hvs hpre hlt hok B hB=>?_) (fun p hok=>?_)
   ·obtain ⟨_,ks2,vs2,M2⟩:=p
    obtain ⟨hk2,hv2,hM2⟩:=hok
    dsimp only at hk2 hv2 hM2 ⊢
    obtain ⟨x,rfl⟩:=hin vs hvs
    obtain ⟨M',ks',vs',hM',hk',hv',hg',hn'⟩:=Go'.put (_F:=F) hput hk2 hv2 (by rw [hM2,size_addL,List.length_map]; omega) x 2 j
    clear hy cl
    repeat' (cbv; first|refine .y ?_|refine .n ?_|refine .s (fun hc=>?_) fun hc=>?_|refine .wn hj ?_|refine MapQ.to hn' hg' ?_|refine .a fun v hv=>?_|refine .d ?_|refine .u fun vr vn hvr hvn hvl=>?_|fail)
    all_goals (try cbv)
    exact hB ⟨0,ks',vs',M'⟩ _ ⟨hk',hv',by dsimp only; rw [hM',hM2,List.map_append]; simp [addL,decP]⟩ rfl
   ·obtain ⟨_,ks2,vs2,M2⟩:=p
    obtain ⟨hk2,hv2,hM2⟩:=hok
    dsimp only at hk2 hv2 hM2 ⊢
    have hgo2:=hgo1.many
    rw [<- hM2] at hgo2
    clear hy cl
    repeat' (cbv; first|refine .y ?_|refine .n ?_|refine .s (fun hc=>?_) fun hc=>?_|refine .a fun v hv=>?_|refine .d ?_|refine .u fun vr vn hvr hvn hvl=>?_|fail)
    all_goals (try cbv)
    exact hA ⟨v,ks2,vs2,M2⟩ _ ⟨by dsimp only; omega,by dsimp only; omega,hk2,hv2,by dsimp only; rw [show v.toNat=i.toNat+1 by omega,hv]; exact hgo2⟩ (by dsimp only; omega) rfl
 rw [hd,putsPs,List.nil_append] at hgo
 clear hd hA hm
 repeat' (cbv; first|refine .y ?_|refine .n ?_|refine .s (fun hc=>?_) fun hc=>?_|refine .ln hmq ?_|refine .ln hml ?_|refine .ln hmt ?_|refine .ln hmm ?_|refine .ln hmg ?_|refine .a fun v hv=>?_|refine .d ?_|refine .u fun vr vn hvr hvn hvl=>?_|fail)
 all_goals (try cbv)
 rw [hE1] at hgo
 clear hE1 e i0 i1 hmq hps
 refine LoopQ.to (ι:=AlI) (fun p=>⟨tab .undef [(1,.ptr 100 0),(3,.ptr 102 0),(48,.sl false 1 rl),(49,.int .i64 ml),(50,.int .i64 p.i)],tab .dead [(100,.box (stL rp rg rq rm rl c0 c1 c2 c3 r0 r1 r2 r3 rt ck pr)),(101,.mp p.ks p.vs),(102,.box [.mp 101])]⟩)
  (fun p=>0<=p.i/\p.i.toNat<=gl.length/\p.ks=kM p.M/\p.vs=vM p.M/\Go' F p.M (putsK 3 0 (gl.drop p.i.toNat) ++ E2)) (fun p=>gl.length - p.i.toNat) ⟨0,ks,vs,M⟩ ⟨by simp,by simp,hks,hvs,by simpa using hgo⟩ rfl fun ⟨i,ks,vs,M⟩ ⟨i0,i1,hks,hvs,hgo⟩ A hA=>?_
 dsimp only at i0 i1 hks hvs hgo ⊢
 rcases drop_cases i1 with ⟨e,hd⟩|⟨hlt,x,hd,hx⟩
 rotate_left
 ·clear hE2 hE3 hE4 hE5 hE6 hE7 hE8 hm0 hm1 hm2 hm3 hmt hmm hmg hw0 hw1 hw2 hw3 hts hms hgs
  rw [hd] at hgo
  have ga:=getD_rows h_rl hx
  have hsz:sizeM M<=100000000000:=by have:=hgo.2; omega
  obtain ⟨M',ks',vs',hM',hk',hv',hg,hn⟩:=Go'.put (_F:=F) hput hks hvs (by omega) x 3 0
  have hgo':Go' F M' (putsK 3 0 (gl.drop (i.toNat+1)) ++ E2):=by rw [hM']; exact Go'.step hgo
  clear hgo hsz hM' hks hvs
  repeat' (cbv; first|refine .y ?_|refine .n ?_|refine .s (fun hc=>?_) fun hc=>?_|refine .row ga ?_|refine MapQ.to hn hg ?_|refine .a fun v hv=>?_|refine .d ?_|refine .u fun vr vn hvr hvn hvl=>?_|fail)
  all_goals (try cbv)
  exact hA ⟨v,ks',vs',M'⟩ _ ⟨by dsimp only; omega,by dsimp only; omega,hk',hv',by dsimp only; rw [show v.toNat=i.toNat+1 by omega]; exact hgo'⟩ (by dsimp only; omega) rfl
 rw [hd] at hgo
 replace hgo:Go' F M E2:=hgo
 clear hd hA
 repeat' (cbv; first|refine .y ?_|refine .n ?_|refine .s (fun hc=>?_) fun hc=>?_|refine .a fun v hv=>?_|refine .d ?_|refine .u fun vr vn hvr hvn hvl=>?_|fail)
 all_goals (try cbv)
 clear e i0 i1 hml hgl
 refine LoopQ.to (ι:=AlI) (fun p=>⟨tab .undef [(1,.ptr 100 0),(3,.ptr 102 0),(59,.agg [.sl false 1 r0,.sl false 1 r1,.sl false 1 r2,.sl false 1 r3]),(60,.int .i64 p.i)],tab .dead [(100,.box (stL rp rg rq rm rl c0 c1 c2 c3 r0 r1 r2 r3 rt ck pr)),(101,.mp p.ks p.vs),(102,.box [.mp 101])]⟩)
  (fun p=>p.ks=kM p.M/\p.vs=vM p.M/\((p.i=0/\Go' F p.M E2)\/(p.i=1/\Go' F p.M E3)\/(p.i=2/\Go' F p.M E4)\/(p.i=3/\Go' F p.M E5)\/(p.i=4/\Go' F p.M E6))) (fun p=>(4 - p.i).toNat) ⟨0,ks,vs,M⟩ ⟨hks,hvs,.inl ⟨rfl,hgo⟩⟩ rfl fun ⟨i,ks,vs,M⟩ ⟨hks,hvs,hi⟩ A0 hA0=>?_
 dsimp only at hks hvs hi ⊢
 clear hgo
 rcases hi with ⟨rfl,hgo⟩|⟨rfl,hgo⟩|⟨rfl,hgo⟩|⟨rfl,hgo⟩|⟨rfl,hgo⟩
 ·rw [hE2] at hgo
  clear hE2 hE3 hE4 hE5 hE6 hE7 hE8 hm1 hm2 hm3 hmt hmm hmg hw1 hw2 hw3 hts hms hgs
  repeat' (cbv; first|refine .y ?_|refine .n ?_|refine .s (fun hc=>?_) fun hc=>?_|refine .ln hm0 ?_|refine .a fun v hv=>?_|refine .d ?_|refine .u fun vr vn hvr hvn hvl=>?_|fail)
  all_goals (try cbv)
  refine LoopQ.to (ι:=AlI) (fun p=>⟨tab .undef [(1,.ptr 100 0),(3,.ptr 102 0),(9,.int .i64 0),(59,.agg [.sl false 1 r0,.sl false 1 r1,.sl false 1 r2,.sl false 1 r3]),(60,.int .i64 0),(64,.sl false 1 r0),(65,.int .i64 m0),(66,.int .i64 p.i)],tab .dead [(100,.box (stL rp rg rq rm rl c0 c1 c2 c3 r0 r1 r2 r3 rt ck pr)),(101,.mp p.ks p.vs),(102,.box [.mp 101])]⟩)
   (fun p=>0<=p.i/\p.i.toNat<=w0.length/\p.ks=kM p.M/\p.vs=vM p.M/\Go' F p.M (putsK 5 0 (w0.drop p.i.toNat) ++ E3)) (fun p=>w0.length - p.i.toNat) ⟨0,ks,vs,M⟩ ⟨by simp,by simp,hks,hvs,by simpa using hgo⟩ rfl fun ⟨i,ks,vs,M⟩ ⟨i0,i1,hks,hvs,hgo⟩ A hA=>?_
  dsimp only at i0 i1 hks hvs hgo ⊢
  rcases drop_cases i1 with ⟨e,hd⟩|⟨hlt,x,hd,hx⟩
  rotate_left
  ·rw [hd] at hgo
   have ga:=getD_rows h_r0 hx
   have hsz:sizeM M<=100000000000:=by have:=hgo.2; omega
   obtain ⟨M',ks',vs',hM',hk',hv',hg,hn⟩:=Go'.put (_F:=F) hput hks hvs (by omega) x 5 0
   have hgo':Go' F M' (putsK 5 0 (w0.drop (i.toNat+1)) ++ E3):=by rw [hM']; exact Go'.step hgo
   clear hgo hsz hM' hks hvs
   repeat' (cbv; first|refine .y ?_|refine .n ?_|refine .s (fun hc=>?_) fun hc=>?_|refine .row ga ?_|refine MapQ.to hn hg ?_|refine .a fun v hv=>?_|refine .d ?_|refine .u fun vr vn hvr hvn hvl=>?_|fail)
   all_goals (try cbv)
   exact hA ⟨v,ks',vs',M'⟩ _ ⟨by dsimp only; omega,by dsimp only; omega,hk',hv',by dsimp only; rw [show v.toNat=i.toNat+1 by omega]; exact hgo'⟩ (by dsimp only; omega) rfl
  rw [hd] at hgo
  replace hgo:Go' F M E3:=hgo
  repeat' (cbv; first|refine .y ?_|refine .n ?_|refine .s (fun hc=>?_) fun hc=>?_|refine .a fun v hv=>?_|refine .d ?_|refine .u fun vr vn hvr hvn hvl=>?_|fail)
  all_goals (try cbv)
  exact hA0 ⟨v,ks,vs,M⟩ _ ⟨hks,hvs,.inr (.inl ⟨hv,hgo⟩)⟩ (by dsimp only; omega) rfl
 ·rw [hE3] at hgo
  clear hE2 hE3 hE4 hE5 hE6 hE7 hE8 hm0 hm2 hm3 hmt hmm hmg hw0 hw2 hw3 hts hms hgs
  repeat' (cbv; first|refine .y ?_|refine .n ?_|refine .s (fun hc=>?_) fun hc=>?_|refine .ln hm1 ?_|refine .a fun v hv=>?_|refine .d ?_|refine .u fun vr vn hvr hvn hvl=>?_|fail)
  all_goals (try cbv)
  refine LoopQ.to (ι:=AlI) (fun p=>⟨tab .undef [(1,.ptr 100 0),(3,.ptr 102 0),(9,.int .i64 1),(59,.agg [.sl false 1 r0,.sl false 1 r1,.sl false 1 r2,.sl false 1 r3]),(60,.int .i64 1),(64,.sl false 1 r1),(65,.int .i64 m1),(66,.int .i64 p.i)],tab .dead [(100,.box (stL rp rg rq rm rl c0 c1 c2 c3 r0 r1 r2 r3 rt ck pr)),(101,.mp p.ks p.vs),(102,.box [.mp 101])]⟩)
   (fun p=>0<=p.i/\p.i.toNat<=w1.length/\p.ks=kM p.M/\p.vs=vM p.M/\Go' F p.M (putsK 5 1 (w1.drop p.i.toNat) ++ E4)) (fun p=>w1.length - p.i.toNat) ⟨0,ks,vs,M⟩ ⟨by simp,by simp,hks,hvs,by simpa using hgo⟩ rfl fun ⟨i,ks,vs,M⟩ ⟨i0,i1,hks,hvs,hgo⟩ A hA=>?_
  dsimp only at i0 i1 hks hvs hgo ⊢
  rcases drop_cases i1 with ⟨e,hd⟩|⟨hlt,x,hd,hx⟩
  rotate_left
  ·rw [hd] at hgo
   have ga:=getD_rows h_r1 hx
   have hsz:sizeM M<=100000000000:=by have:=hgo.2; omega
   obtain ⟨M',ks',vs',hM',hk',hv',hg,hn⟩:=Go'.put (_F:=F) hput hks hvs (by omega) x 5 1
   have hgo':Go' F M' (putsK 5 1 (w1.drop (i.toNat+1)) ++ E4):=by rw [hM']; exact Go'.step hgo
   clear hgo hsz hM' hks hvs
   repeat' (cbv; first|refine .y ?_|refine .n ?_|refine .s (fun hc=>?_) fun hc=>?_|refine .row ga ?_|refine MapQ.to hn hg ?_|refine .a fun v hv=>?_|refine .d ?_|refine .u fun vr vn hvr hvn hvl=>?_|fail)
   all_goals (try cbv)
   exact hA ⟨v,ks',vs',M'⟩ _ ⟨by dsimp only; omega,by dsimp only; omega,hk',hv',by dsimp only; rw [show v.toNat=i.toNat+1 by omega]; exact hgo'⟩ (by dsimp only; omega) rfl
  rw [hd] at hgo
  replace hgo:Go' F M E4:=hgo
  repeat' (cbv; first|refine .y ?_|refine .n ?_|refine .s (fun hc=>?_) fun hc=>?_|refine .a fun v hv=>?_|refine .d ?_|refine .u fun vr vn hvr hvn hvl=>?_|fail)
  all_goals (try cbv)
  exact hA0 ⟨v,ks,vs,M⟩ _ ⟨hks,hvs,.inr (.inr (.inl ⟨hv,hgo⟩))⟩ (by dsimp only; omega) rfl
 ·rw [hE4] at hgo
  clear hE2 hE3 hE4 hE5 hE6 hE7 hE8 hm0 hm1 hm3 hmt hmm hmg hw0 hw1 hw3 hts hms hgs
  repeat' (cbv; first|refine .y ?_|refine .n ?_|refine .s (fun hc=>?_) fun hc=>?_|refine .ln hm2 ?_|refine .a fun v hv=>?_|refine .d ?_|refine .u fun vr vn hvr hvn hvl=>?_|fail)
  all_goals (try cbv)
  refine LoopQ.to (ι:=AlI) (fun p=>⟨tab .undef [(1,.ptr 100 0),(3,.ptr 102 0),(9,.int .i64 2),(59,.agg [.sl false 1 r0,.sl false 1 r1,.sl false 1 r2,.sl false 1 r3]),(60,.int .i64 2),(64,.sl false 1 r2),(65,.int .i64 m2),(66,.int .i64 p.i)],tab .dead [(100,.box (stL rp rg rq rm rl c0 c1 c2 c3 r0 r1 r2 r3 rt ck pr)),(101,.mp p.ks p.vs),(102,.box [.mp 101])]⟩)
   (fun p=>0<=p.i/\p.i.toNat<=w2.length/\p.ks=kM p.M/\p.vs=vM p.M/\Go' F p.M (putsK 5 2 (w2.drop p.i.toNat) ++ E5)) (fun p=>w2.length - p.i.toNat) ⟨0,ks,vs,M⟩ ⟨by simp,by simp,hks,hvs,by simpa using hgo⟩ rfl fun ⟨i,ks,vs,M⟩ ⟨i0,i1,hks,hvs,hgo⟩ A hA=>?_
  dsimp only at i0 i1 hks hvs hgo ⊢
  rcases drop_cases i1 with ⟨e,hd⟩|⟨hlt,x,hd,hx⟩
  rotate_left
  ·rw [hd] at hgo
   have ga:=getD_rows h_r2 hx
   have hsz:sizeM M<=100000000000:=by have:=hgo.2; omega
   obtain ⟨M',ks',vs',hM',hk',hv',hg,hn⟩:=Go'.put (_F:=F) hput hks hvs (by omega) x 5 2
   have hgo':Go' F M' (putsK 5 2 (w2.drop (i.toNat+1)) ++ E5):=by rw [hM']; exact Go'.step hgo
   clear hgo hsz hM' hks hvs
   repeat' (cbv; first|refine .y ?_|refine .n ?_|refine .s (fun hc=>?_) fun hc=>?_|refine .row ga ?_|refine MapQ.to hn hg ?_|refine .a fun v hv=>?_|refine .d ?_|refine .u fun vr vn hvr hvn hvl=>?_|fail)
   all_goals (try cbv)
   exact hA ⟨v,ks',vs',M'⟩ _ ⟨by dsimp only; omega,by dsimp only; omega,hk',hv',by dsimp only; rw [show v.toNat=i.toNat+1 by omega]; exact hgo'⟩ (by dsimp only; omega) rfl
  rw [hd] at hgo
  replace hgo:Go' F M E5:=hgo
  repeat' (cbv; first|refine .y ?_|refine .n ?_|refine .s (fun hc=>?_) fun hc=>?_|refine .a fun v hv=>?_|refine .d ?_|refine .u fun vr vn hvr hvn hvl=>?_|fail)
  all_goals (try cbv)
  exact hA0 ⟨v,ks,vs,M⟩ _ ⟨hks,hvs,.inr (.inr (.inr (.inl ⟨hv,hgo⟩)))⟩ (by dsimp only; omega) rfl
 ·rw [hE5] at hgo
  clear hE2 hE3 hE4 hE5 hE6 hE7 hE8 hm0 hm1 hm2 hmt hmm hmg hw0 hw1 hw2 hts hms hgs
  repeat' (cbv; first|refine .y ?_|refine .n ?_|refine .s (fun hc=>?_) fun hc=>?_|refine .ln hm3 ?_|refine .a fun v hv=>?_|refine .d ?_|refine .u fun vr vn hvr hvn hvl=>?_|fail)
  all_goals (try cbv)
  refine LoopQ.to (ι:=AlI) (fun p=>⟨tab .undef [(1,.ptr 100 0),(3,.ptr 102 0),(9,.int .i64 3),(59,.agg [.sl false 1 r0,.sl false 1 r1,.sl false 1 r2,.sl false 1 r3]),(60,.int .i64 3),(64,.sl false 1 r3),(65,.int .i64 m3),(66,.int .i64 p.i)],tab .dead [(100,.box (stL rp rg rq rm rl c0 c1 c2 c3 r0 r1 r2 r3 rt ck pr)),(101,.mp p.ks p.vs),(102,.box [.mp 101])]⟩)
   (fun p=>0<=p.i/\p.i.toNat<=w3.length/\p.ks=kM p.M/\p.vs=vM p.M/\Go' F p.M (putsK 5 3 (w3.drop p.i.toNat) ++ E6)) (fun p=>w3.length - p.i.toNat) ⟨0,ks,vs,M⟩ ⟨by simp,by simp,hks,hvs,by simpa using hgo⟩ rfl fun ⟨i,ks,vs,M⟩ ⟨i0,i1,hks,hvs,hgo⟩ A hA=>?_
  dsimp only at i0 i1 hks hvs hgo ⊢
  rcases drop_cases i1 with ⟨e,hd⟩|⟨hlt,x,hd,hx⟩
  rotate_left
  ·rw [hd] at hgo
   have ga:=getD_rows h_r3 hx
   have hsz:sizeM M<=100000000000:=by have:=hgo.2; omega
   obtain ⟨M',ks',vs',hM',hk',hv',hg,hn⟩:=Go'.put (_F:=F) hput hks hvs (by omega) x 5 3
   have hgo':Go' F M' (putsK 5 3 (w3.drop (i.toNat+1)) ++ E6):=by rw [hM']; exact Go'.step hgo
   clear hgo hsz hM' hks hvs
   repeat' (cbv; first|refine .y ?_|refine .n ?_|refine .s (fun hc=>?_) fun hc=>?_|refine .row ga ?_|refine MapQ.to hn hg ?_|refine .a fun v hv=>?_|refine .d ?_|refine .u fun vr vn hvr hvn hvl=>?_|fail)
   all_goals (try cbv)
   exact hA ⟨v,ks',vs',M'⟩ _ ⟨by dsimp only; omega,by dsimp only; omega,hk',hv',by dsimp only; rw [show v.toNat=i.toNat+1 by omega]; exact hgo'⟩ (by dsimp only; omega) rfl
  rw [hd] at hgo
  replace hgo:Go' F M E6:=hgo
  repeat' (cbv; first|refine .y ?_|refine .n ?_|refine .s (fun hc=>?_) fun hc=>?_|refine .a fun v hv=>?_|refine .d ?_|refine .u fun vr vn hvr hvn hvl=>?_|fail)
  all_goals (try cbv)
  exact hA0 ⟨v,ks,vs,M⟩ _ ⟨hks,hvs,.inr (.inr (.inr (.inr ⟨hv,hgo⟩)))⟩ (by dsimp only; omega) rfl
 rw [hE6] at hgo
 clear hE2 hE3 hE4 hE5 hE6 hm0 hm1 hm2 hm3 hw0 hw1 hw2 hw3
 repeat' (cbv; first|refine .y ?_|refine .n ?_|refine .s (fun hc=>?_) fun hc=>?_|refine .ln hmt ?_|refine .a fun v hv=>?_|refine .d ?_|refine .u fun vr vn hvr hvn hvl=>?_|fail)
 all_goals (try cbv)
 refine LoopQ.to (ι:=AlI) (fun p=>⟨tab .undef [(1,.ptr 100 0),(3,.ptr 102 0),(77,.sl false 2 rt),(78,.int .i64 mt),(79,.int .i64 p.i)],tab .dead [(100,.box (stL rp rg rq rm rl c0 c1 c2 c3 r0 r1 r2 r3 rt ck pr)),(101,.mp p.ks p.vs),(102,.box [.mp 101])]⟩)
  (fun p=>0<=p.i/\p.i.toNat<=ts.length/\p.ks=kM p.M/\p.vs=vM p.M/\Go' F p.M (putsT (ts.drop p.i.toNat) ++ E7)) (fun p=>ts.length - p.i.toNat) ⟨0,ks,vs,M⟩ ⟨by simp,by simp,hks,hvs,by simpa using hgo⟩ rfl fun ⟨i,ks,vs,M⟩ ⟨i0,i1,hks,hvs,hgo⟩ A hA=>?_
 dsimp only at i0 i1 hks hvs hgo ⊢
 rcases drop_cases i1 with ⟨e,hd⟩|⟨hlt,x,hd,hx⟩
 rotate_left
 ·rw [hd] at hgo
  have ga:=getD_rows h_rt hx
  obtain ⟨xt,xg⟩:=x
  have hsz:sizeM M<=100000000000:=by have:=hgo.2; omega
  obtain ⟨M',ks',vs',hM',hk',hv',hg,hn⟩:=Go'.put (_F:=F) hput hks hvs (by omega) xg 6 0
  have hgo':Go' F M' (putsT (ts.drop (i.toNat+1)) ++ E7):=by rw [hM']; exact Go'.step hgo
  clear hgo hsz hM' hks hvs hE7 hE8 hmm hmg hms hgs
  repeat' (cbv; first|refine .y ?_|refine .n ?_|refine .s (fun hc=>?_) fun hc=>?_|refine .row ga ?_|refine MapQ.to hn hg ?_|refine .a fun v hv=>?_|refine .d ?_|refine .u fun vr vn hvr hvn hvl=>?_|fail)
  all_goals (try cbv)
  exact hA ⟨v,ks',vs',M'⟩ _ ⟨by dsimp only; omega,by dsimp only; omega,hk',hv',by dsimp only; rw [show v.toNat=i.toNat+1 by omega]; exact hgo'⟩ (by dsimp only; omega) rfl
 rw [hd] at hgo
 replace hgo:Go' F M E7:=hgo
 rw [hE7] at hgo
 clear hd hA hE7
 repeat' (cbv; first|refine .y ?_|refine .n ?_|refine .s (fun hc=>?_) fun hc=>?_|refine .ln hmm ?_|refine .a fun v hv=>?_|refine .d ?_|refine .u fun vr vn hvr hvn hvl=>?_|fail)
 all_goals (try cbv)
 clear e i0 i1 hmt hts
 refine LoopQ.to (ι:=AlI) (fun p=>⟨tab .undef [(1,.ptr 100 0),(3,.ptr 102 0),(89,.sl false 2 rm),(90,.int .i64 mm),(91,.int .i64 p.i)],tab .dead [(100,.box (stL rp rg rq rm rl c0 c1 c2 c3 r0 r1 r2 r3 rt ck pr)),(101,.mp p.ks p.vs),(102,.box [.mp 101])]⟩)
  (fun p=>0<=p.i/\p.i.toNat<=ms.length/\p.ks=kM p.M/\p.vs=vM p.M/\Go' F p.M (putsMs p.i (ms.drop p.i.toNat) ++ E8)) (fun p=>ms.length - p.i.toNat) ⟨0,ks,vs,M⟩ ⟨by simp,by simp,hks,hvs,by simpa using hgo⟩ rfl fun ⟨i,ks,vs,M⟩ ⟨i0,i1,hks,hvs,hgo⟩ A hA=>?_
 dsimp only at i0 i1 hks hvs hgo ⊢
 rcases drop_cases i1 with ⟨e,hd⟩|⟨hlt,x,hd,hx⟩
 rotate_left
 ·rw [hd,putsMs,List.append_assoc] at hgo
  have ga:=getD_rows h_rm hx
  obtain ⟨xp,xg⟩:=x
  have hsz:sizeM M<=100000000000:=by have:=hgo.2; omega
  obtain ⟨j,hj⟩ : ∃ j:Int,j=i+1:=⟨_,rfl⟩
  rw [<- hj] at hgo
  clear hE8 hmg hgs
  unfold putsM1 at hgo
  dsimp only at hgo
  have hji:j.toNat=i.toNat+1:=by omega
  by_cases hxg:xg=0
  ·rw [if_neg (by omega)] at hgo
   repeat' (cbv; first|refine .y ?_|refine .n ?_|refine .s (fun hc=>?_) fun hc=>?_|refine .row ga ?_|refine .wn hj ?_|refine .a fun v hv=>?_|refine .d ?_|refine .u fun vr vn hvr hvn hvl=>?_|fail)
   all_goals (try cbv)
   exact hA ⟨j,ks,vs,M⟩ _ ⟨by dsimp only; omega,by dsimp only; omega,hks,hvs,by dsimp only; rw [hji]; exact hgo⟩ (by dsimp only; omega) rfl
  ·rw [if_pos hxg] at hgo
   by_cases hxp:xp=0
   ·rw [if_neg (by omega)] at hgo
    obtain ⟨M4,ks4,vs4,hM4,hk4,hv4,hg4,hn4⟩:=Go'.put (_F:=F) hput hks hvs (by omega) xg 7 j
    rw [<- hj] at hgo
    have hgo':Go' F M4 (putsMs j (ms.drop (i.toNat+1)) ++ E8):=by rw [hM4]; exact Go'.step hgo
    clear hgo hsz hM4 hks hvs
    repeat' (cbv; first|refine .y ?_|refine .n ?_|refine .s (fun hc=>?_) fun hc=>?_|refine .row ga ?_|refine MapQ.to hn4 hg4 ?_|refine .wn hj ?_|refine .a fun v hv=>?_|refine .d ?_|refine .u fun vr vn hvr hvn hvl=>?_|fail)
    all_goals (try cbv)
    exact hA ⟨j,ks4,vs4,M4⟩ _ ⟨by dsimp only; omega,by dsimp only; omega,hk4,hv4,by dsimp only; rw [hji]; exact hgo'⟩ (by dsimp only; omega) rfl
   ·rw [if_pos (by omega)] at hgo
    obtain ⟨M4,ks4,vs4,hM4,hk4,hv4,hg4,hn4⟩:=Go'.put (_F:=F) hput hks hvs (by omega) xg 4 j
    rw [<- hj] at hgo
    have hgo':Go' F M4 (putsMs j (ms.drop (i.toNat+1)) ++ E8):=by rw [hM4]; exact Go'.step hgo
    clear hgo hsz hM4 hks hvs
    repeat' (cbv; first|refine .y ?_|refine .n ?_|refine .s (fun hc=>?_) fun hc=>?_|refine .row ga ?_|refine MapQ.to hn4 hg4 ?_|refine .wn hj ?_|refine .a fun v hv=>?_|refine .d ?_|refine .u fun vr vn hvr hvn hvl=>?_|fail)
    all_goals (try cbv)
    exact hA ⟨j,ks4,vs4,M4⟩ _ ⟨by dsimp only; omega,by dsimp only; omega,hk4,hv4,by dsimp only; rw [hji]; exact hgo'⟩ (by dsimp only; omega) rfl
 rw [hd] at hgo
 replace hgo:Go' F M E8:=hgo
 rw [hE8] at hgo
 clear hd hA hE8
 repeat' (cbv; first|refine .y ?_|refine .n ?_|refine .s (fun hc=>?_) fun hc=>?_|refine .ln hmg ?_|refine .a fun v hv=>?_|refine .d ?_|refine .u fun vr vn hvr hvn hvl=>?_|fail)
 all_goals (try cbv)
 clear e i0 i1 hmm hms
 refine LoopQ.to (ι:=AlI) (fun p=>⟨tab .undef [(3,.ptr 102 0),(123,.sl false 5 rg),(124,.int .i64 mg),(125,.int .i64 p.i)],tab .dead [(101,.mp p.ks p.vs),(102,.box [.mp 101])]⟩)
  (fun p=>0<=p.i/\p.i.toNat<=gs.length/\p.ks=kM p.M/\p.vs=vM p.M/\Go' F p.M (putsGs p.i (gs.drop p.i.toNat))) (fun p=>gs.length - p.i.toNat) ⟨0,ks,vs,M⟩ ⟨by simp,by simp,hks,hvs,by simpa using hgo⟩ rfl fun ⟨i,ks,vs,M⟩ ⟨i0,i1,hks,hvs,hgo⟩ A hA=>?_
 dsimp only at i0 i1 hks hvs hgo ⊢
 rcases drop_cases i1 with ⟨e,hd⟩|⟨hlt,x,hd,hx⟩
 rotate_left
 ·rw [hd,putsGs] at hgo
  have ga:=getD_rows h_rg hx
  obtain ⟨x1,x2,x3,x4,x5⟩:=x
  have hsz:sizeM M<=100000000000:=by have:=hgo.2; omega
  obtain ⟨j,hj⟩ : ∃ j:Int,j=i+1:=⟨_,rfl⟩
  rw [<- hj] at hgo
  obtain ⟨M4,ks4,vs4,hM4,hk4,hv4,hg4,hn4⟩:=Go'.put (_F:=F) hput hks hvs (by omega) j 8 0
  unfold putsG1 at hgo
  dsimp only at hgo
  repeat' (cbv; first|refine .y ?_|refine .n ?_|refine .s (fun hc=>?_) fun hc=>?_|refine .row ga ?_|refine MapQ.to hn4 hg4 ?_|refine .wn hj ?_|refine .a fun v hv=>?_|refine .d ?_|refine .u fun vr vn hvr hvn hvl=>?_|fail)
  all_goals (try cbv)
  all_goals
   have hji:j.toNat=i.toNat+1:=by omega
   first
    |(exfalso; omega)
    |(rw [if_pos (by omega),<- hj] at hgo; exact hA ⟨j,ks4,vs4,M4⟩ _ ⟨by dsimp only; omega,by dsimp only; omega,hk4,hv4,by dsimp only; rw [hji,hM4]; exact Go'.step hgo⟩ (by dsimp only; omega) rfl)
    |(rw [if_neg (by omega)] at hgo; exact hA ⟨j,ks,vs,M⟩ _ ⟨by dsimp only; omega,by dsimp only; omega,hks,hvs,by dsimp only; rw [hji]; exact hgo⟩ (by dsimp only; omega) rfl)
 rw [hd] at hgo
 have hFM:F=M:=hgo.1
 clear hd hA hgo
 repeat' (cbv; first|refine .y ?_|refine .n ?_|refine .s (fun hc=>?_) fun hc=>?_|refine .a fun v hv=>?_|refine .d ?_|refine .u fun vr vn hvr hvn hvl=>?_|fail)
 all_goals (try cbv)
 refine hQ _ ?_
 rw [hFM,hks]
 exact leave_map rfl rfl (by rw [hvs]; exact unown_vM M) (uM_ok M) rfl
end Go.Ab
