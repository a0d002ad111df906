/-
  Who waits; who is on Ms; parts of Gs, Ps, Ms: the document's answers.
  Do Ps and Ms have one another, as they say? does a G stand where its status says? the document's answers.
-/
import Derived.Test.YtkanpbjjabdalaaK13
set_option linter.all false
namespace Go.Ab
open Go Go.Proofs
set_option maxRecDepth 100000
def waiters (s:SD):List Int:=s.w0 ++ s.w1 ++ s.w2 ++ s.w3 ++ s.ts.map (·.g)
set_option maxHeartbeats 4000000 in
theorem c65 (s:SD) (h0:s.w0.length<=1000000) (h1:s.w1.length<=1000000) (h2:s.w2.length<=1000000) (h3:s.w3.length<=1000000) (ht:s.ts.length<=1000000):CallsV Try.prog 65 [.agg (stC s)] (.own 1 ((waiters s).map iC)) [.undef] true:=by
 unfold waiters
 obtain ⟨prog,gs,ps,ms,gl,c0,c1,c2,c3,w0,w1,w2,w3,ts,ck,pr⟩:=s
 obtain ⟨rp,rg,rq,rm,rl,r0,r1,r2,r3,rt,⟨h_rp,s_rp,l_rp⟩,⟨h_rg,s_rg,l_rg⟩,⟨h_rq,s_rq,l_rq⟩,⟨h_rm,s_rm,l_rm⟩,⟨h_rl,s_rl,l_rl⟩,⟨h_r0,s_r0,l_r0⟩,⟨h_r1,s_r1,l_r1⟩,⟨h_r2,s_r2,l_r2⟩,⟨h_r3,s_r3,l_r3⟩,⟨h_rt,s_rt,l_rt⟩,hst_⟩:=stR prog gs ps ms gl c0 c1 c2 c3 w0 w1 w2 w3 ts ck pr
 dsimp only at h0 h1 h2 h3 ht ⊢
 rw [hst_]
 refine callsV_q hD Try.func65 ok65 rfl rfl (by simp only [List.map_cons,List.map_nil,V.sh,V.shL,stL,s_rp,s_rg,s_rq,s_rm,s_rl,s_r0,s_r1,s_r2,s_r3,s_rt]) fun P Q hP hQ=>?_
 clear hst_
 repeat' (cbv; first|refine .y ?_|refine .n ?_|refine .s (fun hc=>?_) fun hc=>?_|refine .a fun v hv=>?_|refine .d ?_|refine .u fun vr vn hvr hvn hvl=>?_|fail)
 all_goals (try cbv)
 refine LoopQ.to (ι:=RunI) (fun p=>⟨tab .undef [(1,.ptr 100 0),(3,.sref 101 0 p.n),(4,.int .i64 p.i)],tab .dead [(100,.box (stL rp rg rq rm rl c0 c1 c2 c3 r0 r1 r2 r3 rt ck pr)),(101,.rows 1 p.rs)]⟩)
  (fun p=>((p.i=0/\p.rs=[])\/(p.i=1/\p.rs=r0)\/(p.i=2/\p.rs=r0 ++ r1)\/(p.i=3/\p.rs=r0 ++ r1 ++ r2)\/(p.i=4/\p.rs=r0 ++ r1 ++ r2 ++ r3))/\p.n=p.rs.length) (fun p=>(4 - p.i).toNat) ⟨0,[],0⟩ ⟨.inl ⟨rfl,rfl⟩,rfl⟩ rfl fun ⟨i,rs,n⟩ ⟨hi,hn⟩ A hA=>?_
 dsimp only at hi hn ⊢
 rcases hi with ⟨rfl,hr⟩|⟨rfl,hr⟩|⟨rfl,hr⟩|⟨rfl,hr⟩|⟨rfl,hr⟩
 ·have:rs.length=0:=by rw [hr]; rfl
  repeat' (cbv; first|refine .y ?_|refine .n ?_|refine .s (fun hc=>?_) fun hc=>?_|refine .a fun v hv=>?_|refine .d ?_|refine .u fun vr vn hvr hvn hvl=>?_|fail)
  all_goals (try cbv)
  exact hA ⟨v,vr,vn⟩ _ ⟨.inr (.inl ⟨hv,by rw [hvr,hr]; rfl⟩),hvn⟩ (by dsimp only; omega) rfl
 ·have:rs.length=r0.length:=by rw [hr]
  repeat' (cbv; first|refine .y ?_|refine .n ?_|refine .s (fun hc=>?_) fun hc=>?_|refine .a fun v hv=>?_|refine .d ?_|refine .u fun vr vn hvr hvn hvl=>?_|fail)
  all_goals (try cbv)
  exact hA ⟨v,vr,vn⟩ _ ⟨.inr (.inr (.inl ⟨hv,by rw [hvr,hr]⟩)),hvn⟩ (by dsimp only; omega) rfl
 ·have:rs.length=r0.length+r1.length:=by rw [hr]; simp
  repeat' (cbv; first|refine .y ?_|refine .n ?_|refine .s (fun hc=>?_) fun hc=>?_|refine .a fun v hv=>?_|refine .d ?_|refine .u fun vr vn hvr hvn hvl=>?_|fail)
  all_goals (try cbv)
  exact hA ⟨v,vr,vn⟩ _ ⟨.inr (.inr (.inr (.inl ⟨hv,by rw [hvr,hr]⟩))),hvn⟩ (by dsimp only; omega) rfl
 ·have:rs.length=r0.length+r1.length+r2.length:=by rw [hr]; simp; omega
  repeat' (cbv; first|refine .y ?_|refine .n ?_|refine .s (fun hc=>?_) fun hc=>?_|refine .a fun v hv=>?_|refine .d ?_|refine .u fun vr vn hvr hvn hvl=>?_|fail)
  all_goals (try cbv)
  exact hA ⟨v,vr,vn⟩ _ ⟨.inr (.inr (.inr (.inr ⟨hv,by rw [hvr,hr]⟩))),hvn⟩ (by dsimp only; omega) rfl
 ·have lrs:rs.length<=4000000:=by rw [hr]; simp; omega
  have hrs:rs=(w0 ++ w1 ++ w2 ++ w3).map iC:=by rw [hr,h_r0,h_r1,h_r2,h_r3]; simp
  clear hr
  repeat' (cbv; first|refine .y ?_|refine .n ?_|refine .s (fun hc=>?_) fun hc=>?_|refine .a fun v hv=>?_|refine .d ?_|refine .u fun vr vn hvr hvn hvl=>?_|fail)
  all_goals (try cbv)
  refine LoopQ.to (ι:=RunI) (fun p=>⟨tab .undef [(1,.ptr 100 0),(3,.sref 101 0 p.n),(5,.int .i64 p.i)],tab .dead [(100,.box (stL rp rg rq rm rl c0 c1 c2 c3 r0 r1 r2 r3 rt ck pr)),(101,.rows 1 p.rs)]⟩)
   (fun p=>0<=p.i/\p.i.toNat<=ts.length/\p.rs=rs ++ ((ts.take p.i.toNat).map (·.g)).map iC/\p.n=p.rs.length) (fun p=>ts.length - p.i.toNat) ⟨0,rs,n⟩ ⟨by simp,by simp,by simp,hn⟩ rfl fun ⟨i,us,n'⟩ ⟨i0,i1,hus,hn'⟩ A hA=>?_
  dsimp only at i0 i1 hus hn' ⊢
  have lus:us.length=rs.length+i.toNat:=by rw [hus]; simp; omega
  rcases drop_cases i1 with ⟨e,hd⟩|⟨hlt,x,hd,hx⟩
  ·rw [e,List.take_length] at hus
   repeat' (cbv; first|refine .y ?_|refine .n ?_|refine .s (fun hc=>?_) fun hc=>?_|refine .a fun v hv=>?_|refine .d ?_|refine .u fun vr vn hvr hvn hvl=>?_|fail)
   all_goals (try cbv)
   (subst_vars; refine hQ _ ?_; exact (Leave.own rfl rfl (by simp) (by simp [iC]) (by simp [okRows_app,okRows_cons,okRows_nil,V.fresh,fr_iC,fr_jC,fr_gC,fr_pC,fr_mC,fr_tC,fr_fC,fr_iCf]) rfl))
  ·have ga:=getD_rows h_rt hx
   have hnext:us ++ [iC x.g]=rs ++ ((ts.take (i.toNat+1)).map (·.g)).map iC:=by rw [take_succ_of hx,hus]; simp
   clear hus
   obtain ⟨x0,x1⟩:=x
   repeat' (cbv; first|refine .y ?_|refine .n ?_|refine .s (fun hc=>?_) fun hc=>?_|refine .row ga ?_|refine .a fun v hv=>?_|refine .d ?_|refine .u fun vr vn hvr hvn hvl=>?_|fail)
   all_goals (try cbv)
   exact hA ⟨v,vr,vn⟩ _ ⟨by dsimp only; omega,by dsimp only; omega,by dsimp only; rw [hvr,show v.toNat=i.toNat+1 by omega,<- hnext]; rfl,hvn⟩ (by dsimp only; omega) rfl
def onMs (s:SD) (w:Bool):List Int:=(s.ms.filter fun m=>decide (m.g≠0)&&(decide (m.p≠0) == w)).map (·.g)
set_option maxHeartbeats 4000000 in
theorem c66 (s:SD) (hm:s.ms.length<=1000000) (w:Bool):CallsV Try.prog 66 [.agg (stC s),.bool w] (.own 1 ((onMs s w).map iC)) [.undef,.undef] true:=by
 unfold onMs
 obtain ⟨prog,gs,ps,ms,gl,c0,c1,c2,c3,w0,w1,w2,w3,ts,ck,pr⟩:=s
 obtain ⟨rp,rg,rq,rm,rl,r0,r1,r2,r3,rt,⟨h_rp,s_rp,l_rp⟩,⟨h_rg,s_rg,l_rg⟩,⟨h_rq,s_rq,l_rq⟩,⟨h_rm,s_rm,l_rm⟩,⟨h_rl,s_rl,l_rl⟩,⟨h_r0,s_r0,l_r0⟩,⟨h_r1,s_r1,l_r1⟩,⟨h_r2,s_r2,l_r2⟩,⟨h_r3,s_r3,l_r3⟩,⟨h_rt,s_rt,l_rt⟩,hst_⟩:=stR prog gs ps ms gl c0 c1 c2 c3 w0 w1 w2 w3 ts ck pr
 dsimp only at hm ⊢
 rw [hst_]
 refine callsV_q hD Try.func66 ok66 rfl rfl (by simp only [List.map_cons,List.map_nil,V.sh,V.shL,stL,s_rp,s_rg,s_rq,s_rm,s_rl,s_r0,s_r1,s_r2,s_r3,s_rt]) fun P Q hP hQ=>?_
 clear hst_
 repeat' (cbv; first|refine .y ?_|refine .n ?_|refine .s (fun hc=>?_) fun hc=>?_|refine .a fun v hv=>?_|refine .d ?_|refine .u fun vr vn hvr hvn hvl=>?_|fail)
 all_goals (try cbv)
 refine LoopQ.to (ι:=RunI) (fun p=>⟨tab .undef [(1,.bool w),(2,.ptr 100 0),(5,.sref 101 0 p.n),(6,.int .i64 p.i)],tab .dead [(100,.box (stL rp rg rq rm rl c0 c1 c2 c3 r0 r1 r2 r3 rt ck pr)),(101,.rows 1 p.rs)]⟩)
  (fun p=>0<=p.i/\p.i.toNat<=ms.length/\p.rs=(((ms.take p.i.toNat).filter fun m=>decide (m.g≠0)&&(decide (m.p≠0) == w)).map (·.g)).map iC/\p.n=p.rs.length) (fun p=>ms.length - p.i.toNat) ⟨0,[],0⟩ ⟨by simp,by simp,by simp,rfl⟩ rfl fun ⟨i,rs,n⟩ ⟨i0,i1,hrs,hn⟩ A hA=>?_
 dsimp only at i0 i1 hrs hn ⊢
 have lrs:rs.length<=i.toNat:=by
  rw [hrs]; simp only [List.length_map]
  refine Nat.le_trans (List.length_filter_le _ _) ?_
  simp; omega
 rcases drop_cases i1 with ⟨e,hd⟩|⟨hlt,x,hd,hx⟩
 ·rw [e,List.take_length] at hrs
  repeat' (cbv; first|refine .y ?_|refine .n ?_|refine .s (fun hc=>?_) fun hc=>?_|refine .a fun v hv=>?_|refine .d ?_|refine .u fun vr vn hvr hvn hvl=>?_|fail)
  all_goals (try cbv)
  (subst_vars; refine hQ _ ?_; exact (Leave.own rfl rfl (by simp) (by simp [iC]) (by simp [okRows_app,okRows_cons,okRows_nil,V.fresh,fr_iC,fr_jC,fr_gC,fr_pC,fr_mC,fr_tC,fr_fC,fr_iCf]) rfl))
 ·have ga:=getD_rows h_rm hx
  have ht:=take_succ_of hx
  obtain ⟨xp,xg⟩:=x
  have hnext:(((ms.take (i.toNat+1)).filter fun m=>decide (m.g≠0)&&(decide (m.p≠0) == w)).map (·.g)).map iC=if xg≠0/\(decide (xp≠0) == w)=true then rs ++ [iC xg] else rs:=by
   rw [ht,List.filter_append,List.map_append,List.map_append,<- hrs]
   by_cases h1:xg=0 <;> by_cases h2:xp=0 <;> cases w <;> simp [h1,h2]
  clear hrs ht
  cases w
  all_goals
   repeat' (cbv; first|refine .y ?_|refine .n ?_|refine .s (fun hc=>?_) fun hc=>?_|refine .row ga ?_|refine .a fun v hv=>?_|refine .d ?_|refine .u fun vr vn hvr hvn hvl=>?_|fail)
   all_goals (try cbv)
   all_goals first
    |(
      refine hA ⟨v,vr,vn⟩ _ ⟨by dsimp only; omega,by dsimp only; omega,?_,hvn⟩ (by dsimp only; omega) rfl
      dsimp only
      rw [hvr,show v.toNat=i.toNat+1 by omega,hnext,if_pos (by simp; omega)]; rfl)
    |(
      refine hA ⟨v,rs,n⟩ _ ⟨by dsimp only; omega,by dsimp only; omega,?_,hn⟩ (by dsimp only; omega) rfl
      dsimp only
      rw [show v.toNat=i.toNat+1 by omega,hnext,if_neg (by simp; omega)])
def okG (prog:List (List ID)) (g:GD):Bool:=decide (0<=g.fn/\g.fn < prog.length/\0<=g.pc/\0<=g.sq/\g.sq < 2305843009213693952)&&decide (g.pc<=(prog.getD g.fn.toNat []).length)
set_option maxHeartbeats 4000000 in
theorem c62 (s:SD) (hp:s.prog.length<=1000000) (hg:s.gs.length<=1000000) (b:Bool) (hb:b=s.gs.all (okG s.prog)):CallsV Try.prog 62 [.agg (stC s)] (.bool b) [.undef] true:=by
 obtain ⟨prog,gs,ps,ms,gl,c0,c1,c2,c3,w0,w1,w2,w3,ts,ck,pr⟩:=s
 obtain ⟨rp,rg,rq,rm,rl,r0,r1,r2,r3,rt,⟨h_rp,s_rp,l_rp⟩,⟨h_rg,s_rg,l_rg⟩,⟨h_rq,s_rq,l_rq⟩,⟨h_rm,s_rm,l_rm⟩,⟨h_rl,s_rl,l_rl⟩,⟨h_r0,s_r0,l_r0⟩,⟨h_r1,s_r1,l_r1⟩,⟨h_r2,s_r2,l_r2⟩,⟨h_r3,s_r3,l_r3⟩,⟨h_rt,s_rt,l_rt⟩,hst_⟩:=stR prog gs ps ms gl c0 c1 c2 c3 w0 w1 w2 w3 ts ck pr
 dsimp only at hp hg hb ⊢
 rw [hst_]
 refine callsV_q hD Try.func62 ok62 rfl rfl (by simp only [List.map_cons,List.map_nil,V.sh,V.shL,stL,s_rp,s_rg,s_rq,s_rm,s_rl,s_r0,s_r1,s_r2,s_r3,s_rt]) fun P Q hP hQ=>?_
 clear hst_
 obtain ⟨np,hnp⟩ : ∃ n:Int,0<=n/\n.toNat=prog.length:=⟨prog.length,by omega,by omega⟩
 repeat' (cbv; first|refine .y ?_|refine .n ?_|refine .s (fun hc=>?_) fun hc=>?_|refine .a fun v hv=>?_|refine .d ?_|refine .u fun vr vn hvr hvn hvl=>?_|fail)
 all_goals (try cbv)
 refine LoopQ.to (ι:=Int) (fun i=>⟨tab .undef [(1,.ptr 100 0),(3,.int .i64 i)],tab .dead [(100,.box (stL rp rg rq rm rl c0 c1 c2 c3 r0 r1 r2 r3 rt ck pr))]⟩)
  (fun i=>0<=i/\i.toNat<=gs.length/\b=(gs.drop i.toNat).all (okG prog)) (fun i=>gs.length - i.toNat) 0 ⟨by omega,by omega,hb⟩ rfl fun i ⟨i0,i1,hi⟩ A hA=>?_
 rcases drop_cases i1 with ⟨e,hd⟩|⟨hlt,x,hd,hx⟩
 ·rw [hd] at hi
  repeat' (cbv; first|refine .y ?_|refine .n ?_|refine .s (fun hc=>?_) fun hc=>?_|refine .a fun v hv=>?_|refine .d ?_|refine .u fun vr vn hvr hvn hvl=>?_|fail)
  all_goals (try cbv)
  have hbe:b=true:=by rw [hi]; rfl
  subst hbe; refine hQ _ ?_; exact ⟨rfl,rfl,rfl,rfl,rfl⟩
 ·rw [hd,List.all_cons] at hi
  have ga:=getD_rows h_rg hx
  obtain ⟨xf,xp,xs,xm,xq⟩:=x
  unfold okG at hi
  dsimp only at hi
  obtain ⟨bl,hbl⟩ : ∃ bl,bl=decide (0<=xq/\xq < 2305843009213693952):=⟨_,rfl⟩
  have cl:=c60 xq bl hbl
  by_cases hr:0<=xf/\xf.toNat < prog.length
  ·obtain ⟨f,hf⟩ : ∃ f,prog[xf.toNat]?=some f:=⟨_,List.getElem?_eq_getElem hr.2⟩
   have gf:=getD_rows h_rp hf
   have hgf:prog.getD xf.toNat []=f:=by rw [List.getD_eq_getElem?_getD,hf]; rfl
   rw [hgf] at hi
   obtain ⟨rf,h_rf⟩ : ∃ r,r=f.map jC:=⟨_,rfl⟩
   have s_rf:V.shR rf=rf:=by rw [h_rf]; exact shR_jC f
   have l_rf:rf.length=f.length:=by simp [h_rf]
   have gf':rp.getD xf.toNat []=[.sl false 2 rf]:=by rw [gf,h_rf]; rfl
   have hlf:(xf < prog.length)=(xf < np):=by rw [show (prog.length:Int)=np by omega]
   simp only [hlf] at hi
   obtain ⟨nf,hnf⟩ : ∃ n:Int,0<=n/\n.toNat=f.length:=⟨f.length,by omega,by omega⟩
   have hlf2:(xp<=f.length)=(xp<=nf):=by rw [show (f.length:Int)=nf by omega]
   simp only [hlf2] at hi
   cases bl
   all_goals
    have hbl':=hbl.symm
    simp only [decide_eq_false_iff_not,decide_eq_true_eq] at hbl'
    try rw [<- hP] at cl
    repeat' (cbv; first|refine .y ?_|refine .n ?_|refine .s (fun hc=>?_) fun hc=>?_|refine .row ga ?_|refine .row gf' ?_|refine .gq cl ?_|refine .a fun v hv=>?_|refine .d ?_|refine .u fun vr vn hvr hvn hvl=>?_|fail)
    all_goals (try cbv)
    all_goals first
     | (
        have hbe:b=false:=by rw [hi,decide_eq_false (p:=0<=xf/\xf < np/\0<=xp/\0<=xq/\xq < 2305843009213693952) (by omega)]; rfl
        subst hbe; (refine hQ _ ?_; exact ⟨rfl,rfl,rfl,rfl,rfl⟩))
     | (
        have hbe:b=false:=by rw [hi,decide_eq_false (p:=xp<=nf) (by omega),Bool.and_false,Bool.false_and]
        subst hbe; (refine hQ _ ?_; exact ⟨rfl,rfl,rfl,rfl,rfl⟩))
     | (
        rw [decide_eq_true (p:=0<=xf/\xf < np/\0<=xp/\0<=xq/\xq < 2305843009213693952) (by omega),decide_eq_true (p:=xp<=nf) (by omega),Bool.true_and,Bool.true_and] at hi
        exact hA _ _ ⟨by omega,by omega,by rw [hi,show v.toNat=i.toNat+1 by omega]; rfl⟩ (by omega) rfl)
  ·rw [decide_eq_false (p:=0<=xf/\xf < prog.length/\0<=xp/\0<=xq/\xq < 2305843009213693952) (by omega),Bool.false_and,Bool.false_and] at hi
   try rw [<- hP] at cl
   repeat' (cbv; first|refine .y ?_|refine .n ?_|refine .s (fun hc=>?_) fun hc=>?_|refine .row ga ?_|refine .gq cl ?_|refine .a fun v hv=>?_|refine .d ?_|refine .u fun vr vn hvr hvn hvl=>?_|fail)
   all_goals (try cbv)
   all_goals first
    |(
      have hbe:b=false:=hi
      subst hbe; (refine hQ _ ?_; exact ⟨rfl,rfl,rfl,rfl,rfl⟩))
    |(exfalso; omega)
end Go.Ab

namespace Go.Ab
open Go Go.Proofs
set_option maxRecDepth 100000
def allI {α:Type} (f:Int->α->Bool):Int->List α->Bool
 |_,[]=>true
 |i,x::l=>f i x&&allI f (i+1) l
def okPp (s:SD) (i:Int) (p:PD):Prop :=
 0<=p.sq/\p.sq < 2305843009213693952/\0<=p.m/\p.m<=s.ms.length/\(p.m=0\/(s.ms.getD (p.m.toNat - 1) ⟨0,0⟩).p=i+1)/\(i < s.pr\/(p.m=0/\p.nx=0/\p.r.n<=0))
instance (s:SD) (i:Int) (p:PD):Decidable (okPp s i p):=by unfold okPp; infer_instance
def okP (s:SD) (i:Int) (p:PD):Bool:=mayR p.r&&decide (okPp s i p)
def okMp (s:SD) (i:Int) (m:MD):Prop:=0<=m.p/\m.p<=s.ps.length/\(m.p=0\/(s.ps.getD (m.p.toNat - 1) default).m=i+1)
instance (s:SD) (i:Int) (m:MD):Decidable (okMp s i m):=by unfold okMp; infer_instance
def holdsB (s:SD):Bool:=allI (okP s) 0 s.ps&&allI (fun i m=>decide (okMp s i m)) 0 s.ms
theorem getD_of {α:Type} {l:List α} {i:Nat} {x d:α} (h:l[i]?=some x):l.getD i d=x:=by
 rw [List.getD_eq_getElem?_getD,h]; rfl
set_option maxHeartbeats 8000000 in
theorem c63 (s : SD) (hq:s.ps.length<=1000000) (hm:s.ms.length<=1000000) (b:Bool) (hb:b=holdsB s):CallsV Try.prog 63 [.agg (stC s)] (.bool b) [.undef] true:=by
 obtain ⟨T,hT⟩ : ∃ T,T=allI (fun i m=>decide (okMp s i m)) 0 s.ms:=⟨_,rfl⟩
 unfold holdsB at hb
 rw [<- hT] at hb
 obtain ⟨s0,hs0⟩ : ∃ s0,s0=s:=⟨_,rfl⟩
 rw [<- hs0] at hT hb
 have e1:s0.ps=s.ps:=by rw [hs0]
 have e2:s0.ms=s.ms:=by rw [hs0]
 have e3:s0.pr=s.pr:=by rw [hs0]
 clear hs0
 obtain ⟨prog,gs,ps,ms,gl,c0,c1,c2,c3,w0,w1,w2,w3,ts,ck,pr⟩:=s
 obtain ⟨rp,rg,rq,rm,rl,r0,r1,r2,r3,rt,⟨h_rp,s_rp,l_rp⟩,⟨h_rg,s_rg,l_rg⟩,⟨h_rq,s_rq,l_rq⟩,⟨h_rm,s_rm,l_rm⟩,⟨h_rl,s_rl,l_rl⟩,⟨h_r0,s_r0,l_r0⟩,⟨h_r1,s_r1,l_r1⟩,⟨h_r2,s_r2,l_r2⟩,⟨h_r3,s_r3,l_r3⟩,⟨h_rt,s_rt,l_rt⟩,hst_⟩:=stR prog gs ps ms gl c0 c1 c2 c3 w0 w1 w2 w3 ts ck pr
 dsimp only at hq hm e1 e2 e3 ⊢
 rw [hst_]
 refine callsV_q hD Try.func63 ok63 rfl rfl (by simp only [List.map_cons,List.map_nil,V.sh,V.shL,stL,s_rp,s_rg,s_rq,s_rm,s_rl,s_r0,s_r1,s_r2,s_r3,s_rt]) fun P Q hP hQ=>?_
 clear hst_
 obtain ⟨nm,hnm⟩ : ∃ n:Int,0<=n/\n.toNat=ms.length:=⟨ms.length,by omega,by omega⟩
 obtain ⟨nq,hnq⟩ : ∃ n:Int,0<=n/\n.toNat=ps.length:=⟨ps.length,by omega,by omega⟩
 rw [e1] at hb
 rw [e2] at hT
 repeat' (cbv; first|refine .y ?_|refine .n ?_|refine .s (fun hc=>?_) fun hc=>?_|refine .a fun v hv=>?_|refine .d ?_|refine .u fun vr vn hvr hvn hvl=>?_|fail)
 all_goals (try cbv)
 refine LoopQ.to (ι:=Int) (fun i=>⟨tab .undef [(1,.ptr 100 0),(3,.int .i64 i)],tab .dead [(100,.box (stL rp rg rq rm rl c0 c1 c2 c3 r0 r1 r2 r3 rt ck pr))]⟩)
  (fun i=>0<=i/\i.toNat<=ps.length/\b=(allI (okP s0) i (ps.drop i.toNat)&&T)) (fun i=>ps.length - i.toNat) 0 ⟨by omega,by omega,hb⟩ rfl fun i ⟨i0,i1,hi⟩ A hA=>?_
 rcases drop_cases i1 with ⟨e,hd⟩|⟨hlt,x,hd,hx⟩
 ·rw [hd, allI,Bool.true_and,hT] at hi
  repeat' (cbv; first|refine .y ?_|refine .n ?_|refine .s (fun hc=>?_) fun hc=>?_|refine .a fun v hv=>?_|refine .d ?_|refine .u fun vr vn hvr hvn hvl=>?_|fail)
  all_goals (try cbv)
  refine LoopQ.to (ι:=Int) (fun i=>⟨tab .undef [(1,.ptr 100 0),(5,.int .i64 i)],tab .dead [(100,.box (stL rp rg rq rm rl c0 c1 c2 c3 r0 r1 r2 r3 rt ck pr))]⟩)
   (fun i=>0<=i/\i.toNat<=ms.length/\b=allI (fun i m=>decide (okMp s0 i m)) i (ms.drop i.toNat)) (fun i=>ms.length - i.toNat) 0 ⟨by omega,by omega,hi⟩ rfl fun i ⟨i0,i1,hi⟩ A hA=>?_
  rcases drop_cases i1 with ⟨e,hd⟩|⟨hlt,x,hd,hx⟩
  ·rw [hd] at hi
   repeat' (cbv; first|refine .y ?_|refine .n ?_|refine .s (fun hc=>?_) fun hc=>?_|refine .a fun v hv=>?_|refine .d ?_|refine .u fun vr vn hvr hvn hvl=>?_|fail)
   all_goals (try cbv)
   have hbe:b=true:=by rw [hi]; rfl
   subst hbe; refine hQ _ ?_; exact ⟨rfl,rfl,rfl,rfl,rfl⟩
  ·rw [hd,allI] at hi
   have ga:=getD_rows h_rm hx
   obtain ⟨xp,xg⟩:=x
   by_cases hr:1<=xp/\xp<=nq
   ·obtain ⟨k,hk⟩ : ∃ k:Int,k=xp - 1:=⟨_,rfl⟩
    obtain ⟨y,hy⟩ : ∃ y,ps[k.toNat]?=some y:=⟨_,List.getElem?_eq_getElem (by omega)⟩
    have gy:=getD_rows h_rq hy
    have hok:okMp s0 i ⟨xp,xg⟩=(0<=xp/\xp<=nq/\(xp=0\/y.m=i+1)):=by
     unfold okMp
     dsimp only
     rw [e1,show xp.toNat - 1=k.toNat by omega,getD_of hy,show (ps.length:Int)=nq by omega]
    obtain ⟨y0,y1,⟨y2,y3,y4,y5,y6,y7,y8,y9,y10,y11⟩,y12⟩:=y
    dsimp only at hok
    by_cases hgood:y0=i+1
    ·rw [decide_eq_true (by rw [hok]; omega),Bool.true_and] at hi
     clear hok
     repeat' (cbv; first|refine .y ?_|refine .n ?_|refine .s (fun hc=>?_) fun hc=>?_|refine .row ga ?_|refine .wn hk ?_|refine .row gy ?_|refine .a fun v hv=>?_|refine .d ?_|refine .u fun vr vn hvr hvn hvl=>?_|fail)
     all_goals (try cbv)
     exact hA _ _ ⟨by omega,by omega,by rw [hi,show v.toNat=i.toNat+1 by omega,hv]⟩ (by omega) rfl
    ·rw [decide_eq_false (by rw [hok]; omega),Bool.false_and] at hi
     clear hok
     repeat' (cbv; first|refine .y ?_|refine .n ?_|refine .s (fun hc=>?_) fun hc=>?_|refine .row ga ?_|refine .wn hk ?_|refine .row gy ?_|refine .a fun v hv=>?_|refine .d ?_|refine .u fun vr vn hvr hvn hvl=>?_|fail)
     all_goals (try cbv)
     have hbe:b=false:=by exact hi
     subst hbe; refine hQ _ ?_; exact ⟨rfl,rfl,rfl,rfl,rfl⟩
   ·by_cases h0:xp=0
    ·rw [decide_eq_true (by unfold okMp; dsimp only; omega),Bool.true_and] at hi
     repeat' (cbv; first|refine .y ?_|refine .n ?_|refine .s (fun hc=>?_) fun hc=>?_|refine .row ga ?_|refine .a fun v hv=>?_|refine .d ?_|refine .u fun vr vn hvr hvn hvl=>?_|fail)
     all_goals (try cbv)
     exact hA _ _ ⟨by omega,by omega,by rw [hi,show v.toNat=i.toNat+1 by omega,hv]⟩ (by omega) rfl
    ·rw [decide_eq_false (by unfold okMp; dsimp only; rw [e1]; omega),Bool.false_and] at hi
     repeat' (cbv; first|refine .y ?_|refine .n ?_|refine .s (fun hc=>?_) fun hc=>?_|refine .row ga ?_|refine .a fun v hv=>?_|refine .d ?_|refine .u fun vr vn hvr hvn hvl=>?_|fail)
     all_goals (try cbv)
     all_goals first
      | (
         have hbe:b=false:=hi
         subst hbe; (refine hQ _ ?_; exact ⟨rfl,rfl,rfl,rfl,rfl⟩))
      | (exfalso; omega)
 ·rw [hd,allI] at hi
  have ga:=getD_rows h_rq hx
  obtain ⟨bm,hbm⟩ : ∃ bm,bm=mayR x.r:=⟨_,rfl⟩
  have cm:=r_rMay x.r bm hbm
  obtain ⟨bl,hbl⟩ : ∃ bl,bl=decide (0<=x.sq/\x.sq < 2305843009213693952):=⟨_,rfl⟩
  have cl:=c60 x.sq bl hbl
  unfold okP at hi
  rw [<- hbm] at hi
  clear hbm
  obtain ⟨T2,hT2⟩ : ∃ T2,T2=allI (fun i p=>mayR p.r&&decide (okPp s0 i p)) (i+1) (ps.drop (i.toNat+1)):=⟨_,rfl⟩
  rw [<- hT2] at hi
  obtain ⟨xm,xn,⟨x2,x3,x4,x5,x6,x7,x8,x9,xh,xk⟩,xq⟩:=x
  dsimp only at cm cl hbl hi
  have hnext:b=(T2&&T)->∀ v:Int,v=i+1->b=(allI (okP s0) v (ps.drop v.toNat)&&T):=fun e v hv=>by
   rw [e,hT2,hv,show (i+1).toNat=i.toNat+1 by omega]; rfl
  clear hT2
  cases bm with
  |false =>
   try rw [<- hP] at cm
   repeat' (cbv; first|refine .y ?_|refine .n ?_|refine .s (fun hc=>?_) fun hc=>?_|refine .row ga ?_|refine .gq cm ?_|refine .a fun v hv=>?_|refine .d ?_|refine .u fun vr vn hvr hvn hvl=>?_|fail)
   all_goals (try cbv)
   have hbe:b=false:=by rw [hi]; rfl
   subst hbe; refine hQ _ ?_; exact ⟨rfl,rfl,rfl,rfl,rfl⟩
  |true =>
  rw [Bool.true_and] at hi
  cases bl with
  |false =>
   have hbl':=hbl.symm
   simp only [decide_eq_false_iff_not] at hbl'
   rw [decide_eq_false (by unfold okPp; dsimp only; omega),Bool.false_and,Bool.false_and] at hi
   try rw [<- hP] at cm
   try rw [<- hP] at cl
   repeat' (cbv; first|refine .y ?_|refine .n ?_|refine .s (fun hc=>?_) fun hc=>?_|refine .row ga ?_|refine .gq cm ?_|refine .gq cl ?_|refine .a fun v hv=>?_|refine .d ?_|refine .u fun vr vn hvr hvn hvl=>?_|fail)
   all_goals (try cbv)
   have hbe:b=false:=by exact hi
   subst hbe; refine hQ _ ?_; exact ⟨rfl,rfl,rfl,rfl,rfl⟩
  |true =>
  have hbl':=hbl.symm
  simp only [decide_eq_true_eq] at hbl'
  by_cases hr:1<=xm/\xm<=nm
  ·obtain ⟨k,hk⟩ : ∃ k:Int,k=xm - 1:=⟨_,rfl⟩
   obtain ⟨y,hy⟩ : ∃ y,ms[k.toNat]?=some y:=⟨_,List.getElem?_eq_getElem (by omega)⟩
   have gy:=getD_rows h_rm hy
   obtain ⟨y0,y1⟩:=y
   have hok:okPp s0 i ⟨xm,xn,⟨x2,x3,x4,x5,x6,x7,x8,x9,xh,xk⟩,xq⟩=(0<=xq/\xq < 2305843009213693952/\0<=xm/\xm<=nm/\(xm=0\/y0=i+1)/\(i < pr\/(xm=0/\xn=0/\xk<=0))):=by
    unfold okPp
    dsimp only
    rw [e2,e3,show xm.toNat - 1=k.toNat by omega,getD_of hy,show (ms.length:Int)=nm by omega]
   by_cases hgood:y0=i+1/\i < pr
   ·rw [decide_eq_true (by rw [hok]; omega),Bool.true_and] at hi
    clear hok
    try rw [<- hP] at cm
    try rw [<- hP] at cl
    repeat' (cbv; first|refine .y ?_|refine .n ?_|refine .s (fun hc=>?_) fun hc=>?_|refine .row ga ?_|refine .wn hk ?_|refine .row gy ?_|refine .gq cm ?_|refine .gq cl ?_|refine .a fun v hv=>?_|refine .d ?_|refine .u fun vr vn hvr hvn hvl=>?_|fail)
    all_goals (try cbv)
    exact hA _ _ ⟨by omega,by omega,hnext hi _ hv⟩ (by omega) rfl
   ·rw [decide_eq_false (by rw [hok]; omega),Bool.false_and,Bool.false_and] at hi
    clear hok
    try rw [<- hP] at cm
    try rw [<- hP] at cl
    repeat' (cbv; first|refine .y ?_|refine .n ?_|refine .s (fun hc=>?_) fun hc=>?_|refine .row ga ?_|refine .wn hk ?_|refine .row gy ?_|refine .gq cm ?_|refine .gq cl ?_|refine .a fun v hv=>?_|refine .d ?_|refine .u fun vr vn hvr hvn hvl=>?_|fail)
    all_goals (try cbv)
    all_goals first
     |(
       have hbe:b=false:=hi
       subst hbe; (refine hQ _ ?_; exact ⟨rfl,rfl,rfl,rfl,rfl⟩))
     |(exfalso; omega)
  ·by_cases h0:xm=0/\(i < pr\/(xn=0/\xk<=0))
   ·rw [decide_eq_true (by unfold okPp; dsimp only; rw [e3]; omega),Bool.true_and] at hi
    try rw [<- hP] at cm
    try rw [<- hP] at cl
    repeat' (cbv; first|refine .y ?_|refine .n ?_|refine .s (fun hc=>?_) fun hc=>?_|refine .row ga ?_|refine .gq cm ?_|refine .gq cl ?_|refine .a fun v hv=>?_|refine .d ?_|refine .u fun vr vn hvr hvn hvl=>?_|fail)
    all_goals (try cbv)
    all_goals first
     |(exfalso; omega)
     |exact hA _ _ ⟨by omega,by omega,hnext hi _ hv⟩ (by omega) rfl
   ·rw [decide_eq_false (by unfold okPp; dsimp only; rw [e2,e3]; omega),Bool.false_and,Bool.false_and] at hi
    try rw [<- hP] at cm
    try rw [<- hP] at cl
    repeat' (cbv; first|refine .y ?_|refine .n ?_|refine .s (fun hc=>?_) fun hc=>?_|refine .row ga ?_|refine .gq cm ?_|refine .gq cl ?_|refine .a fun v hv=>?_|refine .d ?_|refine .u fun vr vn hvr hvn hvl=>?_|fail)
    all_goals (try cbv)
    all_goals first
     |(
       have hbe:b=false:=hi
       subst hbe; (refine hQ _ ?_; exact ⟨rfl,rfl,rfl,rfl,rfl⟩))
     |(exfalso; omega)
end Go.Ab
