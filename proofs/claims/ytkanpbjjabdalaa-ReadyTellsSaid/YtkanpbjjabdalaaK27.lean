/-
  May a state be? where is a G? what is a queue? a copy; a program's state: the program.
  Where is a G? what is a queue? the program.
  A copy; a program's state: the program.
-/
import Derived.Test.YtkanpbjjabdalaaK10
import Derived.Test.YtkanpbjjabdalaaK21
import Derived.Test.YtkanpbjjabdalaaK26
set_option linter.all false
namespace Go.Ab
open Go Go.Proofs
set_option maxRecDepth 100000
theorem uM_find (M:PM) (g:Int) (l:List (Int×Int)) (h:findM M g=some l):(match mfind (.int .i64 g) (kM M) (uM M) with|some v=>v.unown|none=>.nils 2)=.sl true 2 (l.map plC):=by
 have:=find_kv M g
 rw [h] at this
 rw [<- unown_vM]
 unfold mfind at this ⊢
 cases hm:midx (.int .i64 g) (kM M) with
 |none=>rw [hm] at this; cases this
 |some j =>
  rw [hm] at this
  simp only [Option.bind_some,Option.map_some] at this
  simp only [Option.bind_some,List.getElem?_map,this,Option.map_some,V.unown]
theorem uM_none (M:PM) (g:Int) (h:findM M g=none):(match mfind (.int .i64 g) (kM M) (uM M) with|some v=>v.unown|none=>.nils 2)=.nils 2:=by
 have:=find_kv M g
 rw [h] at this
 rw [<- unown_vM]
 unfold mfind at this ⊢
 cases hm:midx (.int .i64 g) (kM M) with
 |none=>rfl
 |some j =>
  rw [hm] at this
  simp only [Option.bind_some,Option.map_none] at this
  simp only [Option.bind_some,List.getElem?_map,this,Option.map_none]
theorem kM_like (M:PM):∀ y∈kM M,(V.int .i64 0).keyLike y=true:=fun y hy=>by
 obtain ⟨e,_,rfl⟩:=List.mem_map.1 hy
 rfl
theorem rings_of_parts {s:SD} (h:partsS s=true):∀ p∈s.ps,mayR p.r=true:=by
 unfold partsS at h
 simp only [Bool.and_eq_true] at h
 intro p hp
 obtain ⟨j,hj⟩:=List.getElem?_of_mem hp
 have:=(allI_iff _ _ _).1 h.2.2.2.2.2.1 j p hj
 unfold okP at this
 simp only [Bool.and_eq_true] at this
 exact this.1
set_option maxHeartbeats 8000000 in
theorem c36 (s:SD) (hs:Fit s) (b:Bool) (hb:b=mayS s):CallsV Try.prog 36 [.agg (stC s)] (.bool b) [.undef] true:=by
 rw [may_prog] at hb
 unfold mayProg at hb
 obtain ⟨bp,hbp⟩ : ∃ z,z=partsS s:=⟨_,rfl⟩
 have cp:=c79 s hs bp hbp
 rw [<- hbp] at hb
 cases bp with
 |false =>
  clear hbp hs
  obtain ⟨prog,gs,ps,ms,gl,c0,c1,c2,c3,w0,w1,w2,w3,ts,ck,pr⟩:=s
  obtain ⟨rp,rg,rq,rm,rl,r0,r1,r2,r3,rt,⟨h_rp,s_rp,l_rp⟩,⟨h_rg,s_rg,l_rg⟩,⟨h_rq,s_rq,l_rq⟩,⟨h_rm,s_rm,l_rm⟩,⟨h_rl,s_rl,l_rl⟩,⟨h_r0,s_r0,l_r0⟩,⟨h_r1,s_r1,l_r1⟩,⟨h_r2,s_r2,l_r2⟩,⟨h_r3,s_r3,l_r3⟩,⟨h_rt,s_rt,l_rt⟩,hst_⟩:=stR prog gs ps ms gl c0 c1 c2 c3 w0 w1 w2 w3 ts ck pr
  dsimp only at hb
  rw [hst_] at cp ⊢
  refine callsV_q hD Try.func36 ok36x rfl rfl (by simp only [List.map_cons,List.map_nil,V.sh,V.shL,stL,s_rp,s_rg,s_rq,s_rm,s_rl,s_r0,s_r1,s_r2,s_r3,s_rt]) fun P Q hP hQ=>?_
  clear hst_
  try rw [<- hP] at cp
  repeat' (cbv; first|refine .y ?_|refine .n ?_|refine .s (fun hc=>?_) fun hc=>?_|refine .gq cp ?_|refine .a fun v hv=>?_|refine .d ?_|refine .u fun vr vn hvr hvn hvl=>?_|fail)
  all_goals (try cbv)
  have hbe:b=false:=by exact hb
  subst hbe; refine hQ _ ?_; exact ⟨rfl,rfl,rfl,rfl,rfl⟩
 |true =>
  have ca:=c80 s hs (rings_of_parts hbp.symm)
  have hgs:=hs.gs
  obtain ⟨M,hM⟩ : ∃ M,M=allM s:=⟨_,rfl⟩
  rw [<- hM] at hb ca
  clear hM hbp hs
  rw [Bool.true_and] at hb
  have hfs:=uM_find M
  have hfn:=uM_none M
  have hlk:=kM_like M
  obtain ⟨ks,hks⟩ : ∃ k,k=kM M:=⟨_,rfl⟩
  obtain ⟨us,hus⟩ : ∃ k,k=uM M:=⟨_,rfl⟩
  have lks:ks.length=M.length:=by rw [hks]; simp [kM]
  rw [<- hks] at ca hfs hfn hlk
  rw [<- hus] at ca hfs hfn
  clear hks hus
  obtain ⟨prog,gs,ps,ms,gl,c0,c1,c2,c3,w0,w1,w2,w3,ts,ck,pr⟩:=s
  obtain ⟨rp,rg,rq,rm,rl,r0,r1,r2,r3,rt,⟨h_rp,s_rp,l_rp⟩,⟨h_rg,s_rg,l_rg⟩,⟨h_rq,s_rq,l_rq⟩,⟨h_rm,s_rm,l_rm⟩,⟨h_rl,s_rl,l_rl⟩,⟨h_r0,s_r0,l_r0⟩,⟨h_r1,s_r1,l_r1⟩,⟨h_r2,s_r2,l_r2⟩,⟨h_r3,s_r3,l_r3⟩,⟨h_rt,s_rt,l_rt⟩,hst_⟩:=stR prog gs ps ms gl c0 c1 c2 c3 w0 w1 w2 w3 ts ck pr
  dsimp only at hb hgs
  rw [hst_] at cp ca ⊢
  refine callsV_q hD Try.func36 ok36x rfl rfl (by simp only [List.map_cons,List.map_nil,V.sh,V.shL,stL,s_rp,s_rg,s_rq,s_rm,s_rl,s_r0,s_r1,s_r2,s_r3,s_rt]) fun P Q hP hQ=>?_
  clear hst_ h_rp h_rq h_rm h_rl h_r0 h_r1 h_r2 h_r3 h_rt
  obtain ⟨mg,hmg⟩ : ∃ n:Int,0<=n/\n.toNat=rg.length:=⟨rg.length,by omega,by omega⟩
  try rw [<- hP] at cp
  try rw [<- hP] at ca
  repeat' (cbv; first|refine .y ?_|refine .n ?_|refine .s (fun hc=>?_) fun hc=>?_|refine .ln hmg ?_|refine .gq cp ?_|refine .gq ca ?_|refine .a fun v hv=>?_|refine .d ?_|refine .u fun vr vn hvr hvn hvl=>?_|fail)
  all_goals (try cbv)
  obtain ⟨n,hn⟩ : ∃ n:Int,n=(M.length:Int):=⟨_,rfl⟩
  have hgm:(decide (M.length=gs.length))=decide (n=mg):=decide_eq_decide.2 (by omega)
  have lks':0<=n/\n.toNat=ks.length:=by omega
  rw [hgm] at hb
  clear hgm lks hn ca cp
  refine LoopQ.to (ι:=Int) (fun i=>⟨tab .undef [(1,.ptr 100 0),(3,.mp 101),(14,.sl false 5 rg),(15,.int .i64 mg),(16,.int .i64 i)],tab .dead [(100,.box (stL rp rg rq rm rl c0 c1 c2 c3 r0 r1 r2 r3 rt ck pr)),(101,.mp ks us)]⟩)
   (fun i=>0<=i/\i.toNat<=gs.length/\b=(allI (chkG M) i (gs.drop i.toNat)&&decide (n=mg))) (fun i=>gs.length - i.toNat) 0 ⟨by omega,by omega,hb⟩ rfl fun i ⟨i0,i1,hi⟩ A hA=>?_
  clear hb
  rcases drop_cases i1 with ⟨e,hd⟩|⟨hlt,x,hd,hx⟩
  ·rw [hd] at hi
   clear hA hd
   rw [allI,Bool.true_and] at hi
   repeat' (cbv; first|refine .y ?_|refine .n ?_|refine .s (fun hc=>?_) fun hc=>?_|refine .ln hmg ?_|refine .ln lks' ?_|refine .a fun v hv=>?_|refine .d ?_|refine .u fun vr vn hvr hvn hvl=>?_|fail)
   all_goals (try cbv)
   ·have hbe:b=true:=by rw [hi]; exact decide_eq_true (by omega)
    subst hbe; refine hQ _ ?_; exact ⟨rfl,rfl,rfl,rfl,rfl⟩
   ·have hbe:b=false:=by rw [hi]; exact decide_eq_false (by omega)
    subst hbe; refine hQ _ ?_; exact ⟨rfl,rfl,rfl,rfl,rfl⟩
  ·rw [hd, allI,Bool.and_assoc] at hi
   have ga:=getD_rows h_rg hx
   have lx:x.st=x.st:=rfl
   obtain ⟨j,hj⟩ : ∃ j:Int,j=i+1:=⟨_,rfl⟩
   unfold chkG at hi
   rw [<- hj] at hi
   have hneed:(V.int .i64 0).keyLike (V.int .i64 j)=true/\∀ y∈ks,(V.int .i64 0).keyLike y=true:=⟨rfl,hlk⟩
   obtain ⟨T,hT⟩ : ∃ T,T=(allI (chkG M) j (gs.drop (i.toNat+1))&&decide (n=mg)):=⟨_,rfl⟩
   rw [show (allI (fun i x=>chkL ((findM M (i+1)).getD []) x) j (gs.drop (i.toNat+1))&&decide (n=mg))=T from hT.symm] at hi
   have hnext:b=T->0<=j/\j.toNat<=gs.length/\b=(allI (chkG M) j (gs.drop j.toNat)&&decide (n=mg)):=fun e=>⟨by omega,by omega,by rw [e,hT,show j.toNat=i.toNat+1 by omega]⟩
   have hless:gs.length - j.toNat < gs.length - i.toNat:=by omega
   clear hT hd hx lks' hlk
   cases hf:findM M j with
   |none =>
    have hget:=hfn j hf
    rw [hf] at hi
    replace hi:b=false:=hi
    clear hfn hfs hf hnext
    repeat' (cbv; first|refine .y ?_|refine .n ?_|refine .s (fun hc=>?_) fun hc=>?_|refine .row ga ?_|refine .wn hj ?_|refine Lt.to hneed hget ?_|refine .a fun v hv=>?_|refine .d ?_|refine .u fun vr vn hvr hvn hvl=>?_|fail)
    all_goals (try cbv)
    have hbe:b=false:=by exact hi
    subst hbe; refine hQ _ ?_; exact ⟨rfl,rfl,rfl,rfl,rfl⟩
   |some l =>
    have hget:=hfs j l hf
    rw [hf] at hi
    clear hfn hfs hf
    rw [Option.getD_some] at hi
    cases l with
    |nil =>
     replace hi:b=false:=hi
     clear hnext
     have h0:(0:Int)<=0/\(0:Int).toNat=([]:List (List V)).length:=⟨by omega,rfl⟩
     repeat' (cbv; first|refine .y ?_|refine .n ?_|refine .s (fun hc=>?_) fun hc=>?_|refine .ln h0 ?_|refine .row ga ?_|refine .wn hj ?_|refine Lt.to hneed hget ?_|refine .a fun v hv=>?_|refine .d ?_|refine .u fun vr vn hvr hvn hvl=>?_|fail)
     all_goals (try cbv)
     have hbe:b=false:=by exact hi
     subst hbe; refine hQ _ ?_; exact ⟨rfl,rfl,rfl,rfl,rfl⟩
    |cons y l =>
    cases l with
    |cons y2 l =>
     replace hi:b=false:=hi
     obtain ⟨rl,hrl⟩ : ∃ r,r=(y::y2::l).map plC:=⟨_,rfl⟩
     have lrl:2<=rl.length:=by rw [hrl]; simp
     rw [<- hrl] at hget
     clear hnext hrl
     repeat' (cbv; first|refine .y ?_|refine .n ?_|refine .s (fun hc=>?_) fun hc=>?_|refine .row ga ?_|refine .wn hj ?_|refine Lt.to hneed hget ?_|refine .a fun v hv=>?_|refine .d ?_|refine .u fun vr vn hvr hvn hvl=>?_|fail)
     all_goals (try cbv)
     have hbe:b=false:=by exact hi
     subst hbe; refine hQ _ ?_; exact ⟨rfl,rfl,rfl,rfl,rfl⟩
    |nil =>
     obtain ⟨yk,yn⟩:=y
     obtain ⟨x1,x2,x3,x4,x5⟩:=x
     obtain ⟨z,hz⟩ : ∃ z,z=statusOf yk:=⟨_,rfl⟩
     have cz:=c81 (yk,yn) z hz
     unfold chkL at hi
     dsimp only at hi
     rw [<- hz] at hi
     clear hz
     have h1:(0:Int)<=1/\(1:Int).toNat=([[V.int .i64 yk,V.int .i64 yn]]:List (List V)).length:=⟨by omega,rfl⟩
     have hr1:2=2/\(0:Int)<=0/\(0:Int).toNat < ([[V.int .i64 yk,V.int .i64 yn]]:List (List V)).length:=⟨rfl,by omega,Nat.zero_lt_one⟩
     have hr2:([[V.int .i64 yk,V.int .i64 yn]]:List (List V)).getD (0:Int).toNat []=[V.int .i64 yk,V.int .i64 yn]:=rfl
     by_cases hst:z=x3
     ·subst hst
      by_cases hk:yk=4\/yk=7
      ·rw [if_pos hk] at hi
       by_cases hm:x4=yn
       ·subst hm
        simp only [true_and,decide_true,Bool.true_and] at hi
        have hnx:=hnext hi
        clear hnext hi
        rcases hk with rfl|rfl
        all_goals
         try rw [<- hP] at cz
         repeat' (cbv; first|refine .y ?_|refine .n ?_|refine .s (fun hc=>?_) fun hc=>?_|refine .row ga ?_|refine .wn hj ?_|refine Lt.to hneed hget ?_|refine .ln h1 ?_|refine Lt.to hr1 hr2 ?_|refine .gq cz ?_|refine .a fun v hv=>?_|refine .d ?_|refine .u fun vr vn hvr hvn hvl=>?_|fail)
         all_goals (try cbv)
         exact hA j _ hnx hless rfl
       ·rw [decide_eq_false (fun q=>hm q.2)] at hi
        replace hi:b=false:=hi
        clear hnext
        rcases hk with rfl|rfl
        all_goals
         try rw [<- hP] at cz
         repeat' (cbv; first|refine .y ?_|refine .n ?_|refine .s (fun hc=>?_) fun hc=>?_|refine .row ga ?_|refine .wn hj ?_|refine Lt.to hneed hget ?_|refine .ln h1 ?_|refine Lt.to hr1 hr2 ?_|refine .gq cz ?_|refine .a fun v hv=>?_|refine .d ?_|refine .u fun vr vn hvr hvn hvl=>?_|fail)
         all_goals (try cbv)
         have hbe:b=false:=by exact hi
         subst hbe; refine hQ _ ?_; exact ⟨rfl,rfl,rfl,rfl,rfl⟩
      ·rw [if_neg hk] at hi
       have hk4:yk≠4:=fun q=>hk (.inl q)
       have hk7:yk≠7:=fun q=>hk (.inr q)
       clear hk
       by_cases hm:x4=0
       ·subst hm
        simp only [true_and,decide_true,Bool.true_and] at hi
        have hnx:=hnext hi
        clear hnext hi
        try rw [<- hP] at cz
        repeat' (cbv; first|refine .y ?_|refine .n ?_|refine .s (fun hc=>?_) fun hc=>?_|refine .row ga ?_|refine .wn hj ?_|refine Lt.to hneed hget ?_|refine .ln h1 ?_|refine Lt.to hr1 hr2 ?_|refine .gq cz ?_|refine .a fun v hv=>?_|refine .d ?_|refine .u fun vr vn hvr hvn hvl=>?_|fail)
        all_goals (try cbv)
        exact hA j _ hnx hless rfl
       ·rw [decide_eq_false (fun q=>hm q.2)] at hi
        replace hi:b=false:=hi
        clear hnext
        try rw [<- hP] at cz
        repeat' (cbv; first|refine .y ?_|refine .n ?_|refine .s (fun hc=>?_) fun hc=>?_|refine .row ga ?_|refine .wn hj ?_|refine Lt.to hneed hget ?_|refine .ln h1 ?_|refine Lt.to hr1 hr2 ?_|refine .gq cz ?_|refine .a fun v hv=>?_|refine .d ?_|refine .u fun vr vn hvr hvn hvl=>?_|fail)
        all_goals (try cbv)
        have hbe:b=false:=by exact hi
        subst hbe; refine hQ _ ?_; exact ⟨rfl,rfl,rfl,rfl,rfl⟩
     ·rw [decide_eq_false (fun q=>hst q.1)] at hi
      replace hi:b=false:=hi
      clear hnext
      try rw [<- hP] at cz
      repeat' (cbv; first|refine .y ?_|refine .n ?_|refine .s (fun hc=>?_) fun hc=>?_|refine .row ga ?_|refine .wn hj ?_|refine Lt.to hneed hget ?_|refine .ln h1 ?_|refine Lt.to hr1 hr2 ?_|refine .gq cz ?_|refine .a fun v hv=>?_|refine .d ?_|refine .u fun vr vn hvr hvn hvl=>?_|fail)
      all_goals (try cbv)
      have hbe:b=false:=by exact hi
      subst hbe; refine hQ _ ?_; exact ⟨rfl,rfl,rfl,rfl,rfl⟩
end Go.Ab

namespace Go.Ab
open Go Go.Proofs
set_option maxRecDepth 100000
theorem may_len {s:SD} (h:mayS s=true):s.gs.length<=1000/\s.ps.length=8/\s.pr<=8/\partsS s=true:=by
 have h2:=h
 rw [mayS_parts] at h2
 simp only [Bool.and_eq_true] at h2
 have h3:=h2.1
 unfold partsS at h3
 simp only [Bool.and_eq_true,decide_eq_true_eq] at h3
 exact ⟨h3.2.1.2.1,h3.2.1.2.2.1,h3.2.1.2.2.2.2.1,h2.1⟩
set_option maxHeartbeats 4000000 in
theorem c47 (s:SD) (hs:Fit s) (p:Int):CallsV Try.prog 47 [.agg (stC s),.int .i64 p] (queueV s p) [.undef,.undef] true:=by
 obtain ⟨bm,hbm⟩ : ∃ b,b=mayS s:=⟨_,rfl⟩
 have cm:=c36 s hs bm hbm
 unfold queueV
 by_cases hc:¬ (1<=p/\p<=s.pr)\/mayS s=false
 ·rw [if_pos hc]
  rw [<- hbm] at hc
  clear hbm hs
  obtain ⟨prog,gs,ps,ms,gl,c0,c1,c2,c3,w0,w1,w2,w3,ts,ck,pr⟩:=s
  obtain ⟨rp,rg,rq,rm,rl,r0,r1,r2,r3,rt,⟨h_rp,s_rp,l_rp⟩,⟨h_rg,s_rg,l_rg⟩,⟨h_rq,s_rq,l_rq⟩,⟨h_rm,s_rm,l_rm⟩,⟨h_rl,s_rl,l_rl⟩,⟨h_r0,s_r0,l_r0⟩,⟨h_r1,s_r1,l_r1⟩,⟨h_r2,s_r2,l_r2⟩,⟨h_r3,s_r3,l_r3⟩,⟨h_rt,s_rt,l_rt⟩,hst_⟩:=stR prog gs ps ms gl c0 c1 c2 c3 w0 w1 w2 w3 ts ck pr
  dsimp only at hc ⊢
  rw [hst_] at cm ⊢
  refine callsV_q hD Try.func47 ok47 rfl rfl (by simp only [List.map_cons,List.map_nil,V.sh,V.shL,stL,s_rp,s_rg,s_rq,s_rm,s_rl,s_r0,s_r1,s_r2,s_r3,s_rt]) fun P Q hP hQ=>?_
  by_cases hp:1<=p/\p<=pr
  ·obtain rfl:bm=false:=hc.elim (fun h=>absurd hp h) id
   clear hc
   try rw [<- hP] at cm
   repeat' (cbv; first|refine .y ?_|refine .n ?_|refine .s (fun hc=>?_) fun hc=>?_|refine .gq cm ?_|refine .a fun v hv=>?_|refine .d ?_|refine .u fun vr vn hvr hvn hvl=>?_|fail)
   all_goals (try cbv)
   (refine hQ _ ?_; exact ⟨rfl,rfl,rfl,rfl,rfl⟩)
  ·clear hc
   have hp':p < 1\/pr < p:=by omega
   clear hp
   rcases hp' with hp|hp
   all_goals
    repeat' (cbv; first|refine .y ?_|refine .n ?_|refine .s (fun hc=>?_) fun hc=>?_|refine .a fun v hv=>?_|refine .d ?_|refine .u fun vr vn hvr hvn hvl=>?_|fail)
    all_goals (try cbv)
    all_goals first
     |(refine hQ _ ?_; exact ⟨rfl,rfl,rfl,rfl,rfl⟩)
     |(exfalso; omega)
 ·rw [if_neg hc]
  have hb:bm=true:=by rw [hbm]; cases h:mayS s <;> simp_all
  subst hb
  have hl':=may_len hbm.symm
  have hrs:=rings_of_parts hl'.2.2.2
  have hp:1<=p/\p<=s.pr:=by simp only [not_or,Classical.not_not] at hc; exact hc.1
  clear hc hbm hs
  obtain ⟨x,hx⟩ : ∃ x,s.ps[p.toNat - 1]?=some x:=⟨_,List.getElem?_eq_getElem (by omega)⟩
  have hrx:=hrs x (mem_of_get hx)
  rw [getD_of hx]
  have cq:=c95 x hrx
  obtain ⟨q,hq⟩ : ∃ q,q=queueOf x:=⟨_,rfl⟩
  rw [<- hq] at cq ⊢
  clear hq hrs hrx
  obtain ⟨rw,h_rw⟩ : ∃ r,r=q.map iC:=⟨_,rfl⟩
  have s_rw:V.shR rw=rw:=by rw [h_rw]; exact shR_iC q
  have l_rw:rw.length=q.length:=by simp [h_rw]
  rw [<- h_rw] at cq ⊢
  obtain ⟨prog,gs,ps,ms,gl,c0,c1,c2,c3,w0,w1,w2,w3,ts,ck,pr⟩:=s
  obtain ⟨rp,rg,rq,rm,rl,r0,r1,r2,r3,rt,⟨h_rp,s_rp,l_rp⟩,⟨h_rg,s_rg,l_rg⟩,⟨h_rq,s_rq,l_rq⟩,⟨h_rm,s_rm,l_rm⟩,⟨h_rl,s_rl,l_rl⟩,⟨h_r0,s_r0,l_r0⟩,⟨h_r1,s_r1,l_r1⟩,⟨h_r2,s_r2,l_r2⟩,⟨h_r3,s_r3,l_r3⟩,⟨h_rt,s_rt,l_rt⟩,hst_⟩:=stR prog gs ps ms gl c0 c1 c2 c3 w0 w1 w2 w3 ts ck pr
  dsimp only at hl' hp hx ⊢
  rw [hst_] at cm ⊢
  refine callsV_q hD Try.func47 ok47 rfl rfl (by simp only [List.map_cons,List.map_nil,V.sh,V.shL,stL,s_rp,s_rg,s_rq,s_rm,s_rl,s_r0,s_r1,s_r2,s_r3,s_rt]) fun P Q hP hQ=>?_
  obtain ⟨k,hk⟩ : ∃ k:Int,k=p - 1:=⟨_,rfl⟩
  have ga:rq.getD k.toNat []=pC x:=by rw [show k.toNat=p.toNat - 1 by omega]; exact getD_rows h_rq hx
  clear hx h_rq
  obtain ⟨h1,h2,h3,h4⟩:=hl'
  clear h4
  obtain ⟨x0,x1,⟨x2,x3,x4,x5,x6,x7,x8,x9,x10,x11⟩,x12⟩:=x
  try rw [<- hP] at cm
  try rw [<- hP] at cq
  repeat' (cbv; first|refine .y ?_|refine .n ?_|refine .s (fun hc=>?_) fun hc=>?_|refine .wn hk ?_|refine .row ga ?_|refine .gq cm ?_|refine .gq cq ?_|refine .a fun v hv=>?_|refine .d ?_|refine .u fun vr vn hvr hvn hvl=>?_|fail)
  all_goals (try cbv)
  refine hQ _ ⟨rfl,rfl,?_,rfl,rfl⟩
  have hf:V.freshR rw=true:=by rw [h_rw]; exact freshR_iC q
  simp [t47,RV.ev,V.notTup,V.cells,resG,giveC,okGood,V.closed,V.fresh,hf,tab]
end Go.Ab

namespace Go.Ab
open Go Go.Proofs
set_option maxRecDepth 100000
theorem r_CloneF (l:List (List ID)) (hl:l.length<=1000000):CallsV Try.prog 82 [.sl false 1 (l.map fC)] (.own 1 (l.map fC)) [.undef] false:=by
 obtain ⟨ra,h_ra⟩ : ∃ r,r=l.map fC:=⟨_,rfl⟩
 have s_ra:V.shR ra=ra:=by rw [h_ra]; exact shR_fC l
 have l_ra:ra.length=l.length:=by simp [h_ra]
 rw [<- h_ra]
 refine callsV_q hD Try.func82 ok82 rfl rfl (by simp only [List.map_cons,List.map_nil,V.sh,V.shL,stL,s_ra]) fun P Q hP hQ=>?_
 repeat' (cbv; first|refine .y ?_|refine .n ?_|refine .s (fun hc=>?_) fun hc=>?_|refine IfNil.split (fun hc=>?_) ?_|refine .a fun v hv=>?_|refine .d ?_|refine .u fun vr vn hvr hvn hvl=>?_|fail)
 all_goals (try cbv)
 ·subst hc
  (refine hQ _ ?_; exact ⟨rfl,rfl,rfl,rfl,rfl⟩)
 ·(subst_vars; refine hQ _ ?_; exact (Leave.own rfl rfl (by simp) (by simp [fC]) (by simp [okRows_app,okRows_cons,okRows_nil,V.fresh,fr_iC,fr_jC,fr_gC,fr_pC,fr_mC,fr_tC,fr_fC,fr_iCf]) rfl))
theorem freshL_of:∀ {l:List V},(l.all fun c=>c.fresh)=true->V.freshL l=true
 |[],_=>rfl
 |c::l,h=>by
  simp only [List.all_cons,Bool.and_eq_true] at h
  simp only [V.freshL,h.1,freshL_of h.2,Bool.and_self]
theorem freshR_of:∀ {rows:List (List V)},okRows true rows=true->V.freshR rows=true
 |[],_=>rfl
 |r::l,h=>by
  unfold okRows at h
  simp only [List.all_cons,Bool.not_true,Bool.false_or,Bool.and_eq_true] at h
  simp only [V.freshR,freshL_of h.1,Bool.true_and]
  exact freshR_of (by unfold okRows; simpa using h.2)
structure CpI where
 i:Int
 n:Nat
 rs:List (List V)
structure CwI where
 i:Int
 f0:Bool
 f1:Bool
 f2:Bool
 f3:Bool
end Go.Ab
