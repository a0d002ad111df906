/-
  A copy whose first slices are own.
  The document's answers: has a state little? where Gs stand.
  Results as they are read: copies, and states that programs begin with.
  Facts that the laws of find and of ready share.
-/
import Derived.Test.YtkanpbjjabdalaaK8
import Derived.Test.YtkanpbjjabdalaaK13
import Derived.Test.YtkanpbjjabdalaaK22
import Derived.Test.YtkanpbjjabdalaaK24
import Derived.Test.YtkanpbjjabdalaaK27
set_option linter.all false
namespace Go.Ab
open Go Go.Proofs
set_option maxRecDepth 100000
def cpY (s:SD):List V :=
 [.own 1 (s.prog.map fT),.own 5 (s.gs.map gC),.own 13 (s.ps.map pC),.own 2 (s.ms.map mC),.own 1 (s.gl.map iC),.int .i64 s.c0,.int .i64 s.c1,.int .i64 s.c2,.int .i64 s.c3,.sl true 1 (s.w0.map iC),.sl true 1 (s.w1.map iC),.sl true 1 (s.w2.map iC),.sl true 1 (s.w3.map iC),.sl true 2 (s.ts.map tC),.int .i64 s.ck,.int .i64 s.pr]
structure CyI where
 i:Int
 rs:List (List V)
set_option maxHeartbeats 8000000 in
theorem c38y (s:SD) (hs:Fit s):CallsV Try.prog 38 [.agg (stC s)] (.agg (cpY s)) [.undef] true:=by
 have hcode:=hs.code
 have hprog:=hs.prog
 have cf:=r_CloneF s.prog hs.prog
 have cg:=r_CloneG s.gs hs.gs
 have cq:=r_CloneP s.ps hs.ps
 have cm:=r_CloneM s.ms hs.ms
 have cl:=r_CloneInt s.gl hs.gl
 have ct:=r_CloneT s.ts hs.ts
 have k0:=r_CloneInt s.w0 hs.w0
 have k1:=r_CloneInt s.w1 hs.w1
 have k2:=r_CloneInt s.w2 hs.w2
 have k3:=r_CloneInt s.w3 hs.w3
 have ff:FrR _:=⟨fr_fT s.prog⟩
 have fg:FrR _:=⟨fr_gC s.gs⟩
 have fq:FrR _:=⟨fr_pC s.ps⟩
 have fm:FrR _:=⟨fr_mC s.ms⟩
 have fl:FrR _:=⟨fr_iC s.gl⟩
 have f0:FrS _:=⟨freshR_of (fr_iC s.w0)⟩
 have f1:FrS _:=⟨freshR_of (fr_iC s.w1)⟩
 have f2:FrS _:=⟨freshR_of (fr_iC s.w2)⟩
 have f3:FrS _:=⟨freshR_of (fr_iC s.w3)⟩
 have ft:FrS _:=⟨freshR_of (fr_tC s.ts)⟩
 clear hs
 unfold cpY
 obtain ⟨prog,gs,ps,ms,gl,c0,c1,c2,c3,w0,w1,w2,w3,ts,ck,pr⟩:=s
 obtain ⟨rp,rg,rq,rm,rl,r0,r1,r2,r3,rt,⟨h_rp,s_rp,l_rp⟩,⟨h_rg,s_rg,l_rg⟩,⟨h_rq,s_rq,l_rq⟩,⟨h_rm,s_rm,l_rm⟩,⟨h_rl,s_rl,l_rl⟩,⟨h_r0,s_r0,l_r0⟩,⟨h_r1,s_r1,l_r1⟩,⟨h_r2,s_r2,l_r2⟩,⟨h_r3,s_r3,l_r3⟩,⟨h_rt,s_rt,l_rt⟩,hst_⟩:=stR prog gs ps ms gl c0 c1 c2 c3 w0 w1 w2 w3 ts ck pr
 dsimp only at hcode hprog cf cg cq cm cl ct k0 k1 k2 k3 ff fg fq fm fl f0 f1 f2 f3 ft
 rw [hst_]
 rw [<- h_rp] at cf
 rw [<- h_rg] at cg fg
 rw [<- h_rq] at cq fq
 rw [<- h_rm] at cm fm
 rw [<- h_rl] at cl fl
 rw [<- h_rt] at ct ft
 rw [<- h_r0] at k0 f0
 rw [<- h_r1] at k1 f1
 rw [<- h_r2] at k2 f2
 rw [<- h_r3] at k3 f3
 dsimp only
 rw [<- h_rg,<- h_rq,<- h_rm,<- h_rl,<- h_r0,<- h_r1,<- h_r2,<- h_r3,<- h_rt]
 obtain ⟨rp',h_rp'⟩ : ∃ r,r=prog.map fT:=⟨_,rfl⟩
 rw [<- h_rp'] at ff ⊢
 have lrp':rp'.length=rp.length:=by rw [h_rp',h_rp]; simp
 clear hst_ h_rg h_rq h_rm h_rl h_r0 h_r1 h_r2 h_r3 h_rt l_rg l_rq l_rm l_rl l_r0 l_r1 l_r2 l_r3 l_rt
 refine callsV_l hD Try.func38 ok38y rfl rfl (by simp only [List.map_cons,List.map_nil,V.sh,V.shL,stL,stN,stK,stH,s_rp,s_rg,s_rq,s_rm,s_rl,s_r0,s_r1,s_r2,s_r3,s_rt]) fun P L Q hP hL hQ=>?_
 have lp:L rp=rp.length:=hL rp
 rw [<- hP] at cf cg cq cm cl ct k0 k1 k2 k3
 obtain ⟨mp,hmp⟩ : ∃ n:Int,0<=n/\n.toNat=L rp:=⟨L rp,by omega,by omega⟩
 repeat' (cbv; first|refine .y ?_|refine .n ?_|refine .s (fun hc=>?_) fun hc=>?_|refine .x ?_|refine .r ?_|refine .e fun v hv=>?_|refine .a fun v hv=>?_|refine .d ?_|refine .u fun vr vn hvr hvn hvl=>?_|fail)
 all_goals (try cbv)
 refine LoopQ.to (ι:=CyI) (fun p=>⟨tab .undef [(1,.ptr 100 0),(2,.ptr 101 0),(12,.sref 112 0 (L rp)),(13,.int .i64 mp),(14,.int .i64 p.i)],tab .dead [(100,.box [.sref 112 0 (L rp),.sl false 5 rg,.sl false 13 rq,.sl false 2 rm,.sl false 1 rl,.int .i64 c0,.int .i64 c1,.int .i64 c2,.int .i64 c3,.sl false 1 r0,.sl false 1 r1,.sl false 1 r2,.sl false 1 r3,.sl false 2 rt,.int .i64 ck,.int .i64 pr]),
  (101,.box [.nils 1,.nils 5,.nils 13,.nils 2,.nils 1,.int .i64 0,.int .i64 0,.int .i64 0,.int .i64 0,.nils 1,.nils 1,.nils 1,.nils 1,.nils 2,.int .i64 0,.int .i64 0]),(112,.rows 1 p.rs)]⟩)
  (fun p=>0<=p.i/\p.i.toNat<=prog.length/\p.rs=(prog.take p.i.toNat).map fT ++ (prog.drop p.i.toNat).map fC) (fun p=>prog.length - p.i.toNat) ⟨0,rp⟩ ⟨by simp,by simp,by simpa using h_rp⟩ rfl fun ⟨i,rs⟩ ⟨i0,i1,hrs⟩ A hA=>?_
 dsimp only at i0 i1 hrs ⊢
 rcases drop_cases i1 with ⟨e,hd⟩|⟨hlt,x,hd,hx⟩
 ·have hrs':rs=rp':=by rw [hrs,e,h_rp']; simp
  subst hrs'
  have lE:L rp=L rs:=by rw [hL,hL]; omega
  clear hrs hd h_rp' hcode
  repeat' (cbv; first|refine .y ?_|refine .n ?_|refine .s (fun hc=>?_) fun hc=>?_|refine .x ?_|refine .r ?_|refine .e fun v hv=>?_|refine .a fun v hv=>?_|refine .d ?_|refine .u fun vr vn hvr hvn hvl=>?_|fail)
  all_goals (try cbv)
  refine LoopQ.to (ι:=CwI) (fun p=>⟨tab .undef [(1,.ptr 100 0),(2,.ptr 101 0),(47,.agg [.sl false 1 r0,.sl false 1 r1,.sl false 1 r2,.sl false 1 r3]),(48,.int .i64 p.i)],tab .dead [(100,.box [.sref 112 0 (L rp),.sref 113 0 (L rg),.sref 114 0 (L rq),.sref 115 0 (L rm),.sref 116 0 (L rl),.int .i64 c0,.int .i64 c1,.int .i64 c2,.int .i64 c3,.sl p.f0 1 r0,.sl p.f1 1 r1,.sl p.f2 1 r2,.sl p.f3 1 r3,.sl true 2 rt,.int .i64 ck,.int .i64 pr]),
   (101,.box [.nils 1,.nils 5,.nils 13,.nils 2,.nils 1,.int .i64 0,.int .i64 0,.int .i64 0,.int .i64 0,.nils 1,.nils 1,.nils 1,.nils 1,.nils 2,.int .i64 0,.int .i64 0]),(112,.rows 1 rs),(113,.rows 5 rg),(114,.rows 13 rq),(115,.rows 2 rm),(116,.rows 1 rl)]⟩)
   (fun p=>p=⟨0,false,false,false,false⟩\/p=⟨1,true,false,false,false⟩\/p=⟨2,true,true,false,false⟩\/p=⟨3,true,true,true,false⟩\/p=⟨4,true,true,true,true⟩) (fun p=>(4 - p.i).toNat) ⟨0,false,false,false,false⟩ (.inl rfl) rfl fun p hp B hB=>?_
  clear cf cg cq cm cl ct
  rcases hp with rfl|rfl|rfl|rfl|rfl
  ·clear k1 k2 k3
   repeat' (cbv; first|refine .y ?_|refine .n ?_|refine .s (fun hc=>?_) fun hc=>?_|refine .x ?_|refine .r ?_|refine .e fun v hv=>?_|refine .a fun v hv=>?_|refine .d ?_|refine .u fun vr vn hvr hvn hvl=>?_|fail)
   all_goals (try cbv)
   exact hB ⟨v,true,false,false,false⟩ _ (.inr (.inl (by rw [hv]; rfl))) (by dsimp only; omega) (by cbv)
  ·clear k0 k2 k3
   repeat' (cbv; first|refine .y ?_|refine .n ?_|refine .s (fun hc=>?_) fun hc=>?_|refine .x ?_|refine .r ?_|refine .e fun v hv=>?_|refine .a fun v hv=>?_|refine .d ?_|refine .u fun vr vn hvr hvn hvl=>?_|fail)
   all_goals (try cbv)
   exact hB ⟨v,true,true,false,false⟩ _ (.inr (.inr (.inl (by rw [hv]; rfl)))) (by dsimp only; omega) (by cbv)
  ·clear k0 k1 k3
   repeat' (cbv; first|refine .y ?_|refine .n ?_|refine .s (fun hc=>?_) fun hc=>?_|refine .x ?_|refine .r ?_|refine .e fun v hv=>?_|refine .a fun v hv=>?_|refine .d ?_|refine .u fun vr vn hvr hvn hvl=>?_|fail)
   all_goals (try cbv)
   exact hB ⟨v,true,true,true,false⟩ _ (.inr (.inr (.inr (.inl (by rw [hv]; rfl))))) (by dsimp only; omega) (by cbv)
  ·clear k0 k1 k2
   repeat' (cbv; first|refine .y ?_|refine .n ?_|refine .s (fun hc=>?_) fun hc=>?_|refine .x ?_|refine .r ?_|refine .e fun v hv=>?_|refine .a fun v hv=>?_|refine .d ?_|refine .u fun vr vn hvr hvn hvl=>?_|fail)
   all_goals (try cbv)
   exact hB ⟨v,true,true,true,true⟩ _ (.inr (.inr (.inr (.inr (by rw [hv]; rfl))))) (by dsimp only; omega) (by cbv)
  ·repeat' (cbv; first|refine .y ?_|refine .n ?_|refine .s (fun hc=>?_) fun hc=>?_|refine .x ?_|refine .r ?_|refine .e fun v hv=>?_|refine .a fun v hv=>?_|refine .d ?_|refine .u fun vr vn hvr hvn hvl=>?_|fail)
   all_goals (try cbv)
   (refine hQ _ ⟨?_,?_,?_,?_,?_⟩ <;> (try cbv) <;> (repeat' first|exact True.intro|exact rfl|assumption|exact FrR.mk rfl|exact FrS.mk rfl|(rw [hL]; rfl)|refine ⟨?_,?_⟩|fail))
 ·have ht:=take_succ_of hx
  obtain ⟨rf,h_rf⟩ : ∃ r,r=x.map jC:=⟨_,rfl⟩
  have s_rf:V.shR rf=rf:=by rw [h_rf]; exact shR_jC x
  have l_rf:rf.length=x.length:=by simp [h_rf]
  have lf:x.length<=1000000:=hcode x (mem_of_get hx)
  have cx:=r_CloneInstr x lf
  rw [<- h_rf] at cx
  obtain ⟨k,hk⟩ : ∃ k,0+i.toNat=k:=⟨_,rfl⟩
  have hti:((prog.take i.toNat).map fT).length=i.toNat:=by simp; omega
  have hlen:rs.length=rp.length:=by rw [hrs,h_rp]; simp; omega
  have ga:rs.getD k []=[.sl false 2 rf]:=by
   rw [show k=i.toNat by omega,hrs,List.getD_eq_getElem?_getD,List.getElem?_append_right (by omega),hti,Nat.sub_self,hd,List.map_cons,h_rf]; rfl
  obtain ⟨r2,e2,g2,l2,q2⟩:=upd_row (show k < rs.length by omega) ga 0 [.sl true 2 rf]
  have hset:r2=(prog.take (i.toNat+1)).map fT ++ (prog.drop (i.toNat+1)).map fC:=by
   rw [q2,hrs,show k=i.toNat by omega,List.set_append_right _ _ (by omega),hti,Nat.sub_self,hd,List.map_cons,List.set_cons_zero,ht,h_rf,List.map_append]; simp [fT,setR]
  rw [<- hP] at cx
  clear cf cg cq cm cl ct k0 k1 k2 k3 hrs hd hx ht h_rp h_rp' ff fg fq fm fl f0 f1 f2 f3 ft hcode q2
  repeat' (cbv; first|refine .y ?_|refine .n ?_|refine .s (fun hc=>?_) fun hc=>?_|refine .x ?_|refine .r ?_|refine .e fun v hv=>?_|refine .a fun v hv=>?_|refine .d ?_|refine .u fun vr vn hvr hvn hvl=>?_|fail)
  all_goals (try cbv)
  exact hA ⟨v,r2⟩ _ ⟨by dsimp only; omega,by dsimp only; omega,by dsimp only; rw [hset,show v.toNat=i.toNat+1 by omega]⟩ (by dsimp only; omega) (by cbv)
end Go.Ab

namespace Go.Ab
open Go Go.Proofs
set_option maxRecDepth 100000
structure Held (s:SD):Prop where
 prog:s.prog.length<=140737488355328
 gs:s.gs.length<=140737488355328
 ps:s.ps.length<=140737488355328
 ms:s.ms.length<=140737488355328
 gl:s.gl.length<=140737488355328
 w0:s.w0.length<=140737488355328
 w1:s.w1.length<=140737488355328
 w2:s.w2.length<=140737488355328
 w3:s.w3.length<=140737488355328
 ts:s.ts.length<=140737488355328
def smallS (s:SD):Bool :=
 s.gs.all (fun g=>decide (g.sq<=1000000))&&s.ps.all (fun p=>decide (p.sq<=1000000))&&decide (s.ck<=1000000000)&&smallPr s.prog &&
  decide (s.gs.length<=40/\s.ps.length<=10/\s.ms.length<=40/\s.gl.length+s.ts.length+s.w0.length+s.w1.length+s.w2.length+s.w3.length<=80)
set_option maxHeartbeats 8000000 in
theorem c12 (s : SD) (hs:Held s) (b:Bool) (hb:b=smallS s):CallsV Try.prog 12 [.agg (stC s)] (.bool b) [.undef] true:=by
 obtain ⟨prog,gs,ps,ms,gl,c0,c1,c2,c3,w0,w1,w2,w3,ts,ck,pr⟩:=s
 obtain ⟨rp,rg,rq,rm,rl,r0,r1,r2,r3,rt,⟨h_rp,s_rp,l_rp⟩,⟨h_rg,s_rg,l_rg⟩,⟨h_rq,s_rq,l_rq⟩,⟨h_rm,s_rm,l_rm⟩,⟨h_rl,s_rl,l_rl⟩,⟨h_r0,s_r0,l_r0⟩,⟨h_r1,s_r1,l_r1⟩,⟨h_r2,s_r2,l_r2⟩,⟨h_r3,s_r3,l_r3⟩,⟨h_rt,s_rt,l_rt⟩,hst_⟩:=stR prog gs ps ms gl c0 c1 c2 c3 w0 w1 w2 w3 ts ck pr
 obtain ⟨fp,fg,fq,fm,fl,f0,f1,f2,f3,ft⟩:=hs
 dsimp only [smallS] at hb fp fg fq fm fl f0 f1 f2 f3 ft
 rw [hst_]
 refine callsV_q hD Try.func12 ok12 rfl rfl (by simp only [List.map_cons,List.map_nil,V.sh,V.shL,stL,s_rp,s_rg,s_rq,s_rm,s_rl,s_r0,s_r1,s_r2,s_r3,s_rt]) fun P Q hP hQ=>?_
 clear hst_
 obtain ⟨tp,htp⟩ : ∃ x,x=smallPr prog:=⟨_,rfl⟩
 have cp:=c34 prog (by omega) tp htp
 rw [<- h_rp] at cp
 rw [<- htp] at hb
 repeat' (cbv; first|refine .y ?_|refine .n ?_|refine .s (fun hc=>?_) fun hc=>?_|refine .a fun v hv=>?_|refine .d ?_|refine .u fun vr vn hvr hvn hvl=>?_|fail)
 all_goals (try cbv)
 obtain ⟨n0,rfl⟩ : ∃ n0,n0=v:=⟨v,rfl⟩
 obtain ⟨z0,hz0⟩ : ∃ z:Int,0<=z/\z.toNat=w0.length:=⟨w0.length,by omega,by omega⟩
 obtain ⟨z1,hz1⟩ : ∃ z:Int,0<=z/\z.toNat=w1.length:=⟨w1.length,by omega,by omega⟩
 obtain ⟨z2,hz2⟩ : ∃ z:Int,0<=z/\z.toNat=w2.length:=⟨w2.length,by omega,by omega⟩
 obtain ⟨z3,hz3⟩ : ∃ z:Int,0<=z/\z.toNat=w3.length:=⟨w3.length,by omega,by omega⟩
 obtain ⟨zl,hzl⟩ : ∃ z:Int,0<=z/\z.toNat=gl.length:=⟨gl.length,by omega,by omega⟩
 obtain ⟨zt,hzt⟩ : ∃ z:Int,0<=z/\z.toNat=ts.length:=⟨ts.length,by omega,by omega⟩
 have hn0:n0=zl+zt:=by omega
 refine LoopQ.to (ι:=Int) (fun i=>⟨tab .undef [(1,.ptr 100 0),(3,.int .i64 n0),(4,.int .i64 i)],tab .dead [(100,.box (stL rp rg rq rm rl c0 c1 c2 c3 r0 r1 r2 r3 rt ck pr))]⟩)
  (fun i=>0<=i/\i.toNat<=gs.length/\b=((gs.drop i.toNat).all (fun g=>decide (g.sq<=1000000))&&ps.all (fun p=>decide (p.sq<=1000000))&&decide (ck<=1000000000)&&tp&&decide (gs.length<=40/\ps.length<=10/\ms.length<=40/\gl.length+ts.length+w0.length+w1.length+w2.length+w3.length<=80))) (fun i=>gs.length - i.toNat) 0 ⟨by omega,by omega,hb⟩ rfl fun i ⟨i0,i1,hi⟩ A hA=>?_
 rcases drop_cases i1 with ⟨e,hd⟩|⟨hlt,x,hd,hx⟩
 ·rw [hd, List.all_nil,Bool.true_and] at hi
  repeat' (cbv; first|refine .y ?_|refine .n ?_|refine .s (fun hc=>?_) fun hc=>?_|refine .a fun v hv=>?_|refine .d ?_|refine .u fun vr vn hvr hvn hvl=>?_|fail)
  all_goals (try cbv)
  refine LoopQ.to (ι:=Int) (fun i=>⟨tab .undef [(1,.ptr 100 0),(3,.int .i64 n0),(5,.int .i64 i)],tab .dead [(100,.box (stL rp rg rq rm rl c0 c1 c2 c3 r0 r1 r2 r3 rt ck pr))]⟩)
   (fun i=>0<=i/\i.toNat<=ps.length/\b=((ps.drop i.toNat).all (fun p=>decide (p.sq<=1000000))&&decide (ck<=1000000000)&&tp&&decide (gs.length<=40/\ps.length<=10/\ms.length<=40/\gl.length+ts.length+w0.length+w1.length+w2.length+w3.length<=80))) (fun i=>ps.length - i.toNat) 0 ⟨by omega,by omega,hi⟩ rfl fun i ⟨i0,i1,hi⟩ A hA=>?_
  rcases drop_cases i1 with ⟨e,hd⟩|⟨hlt,x,hd,hx⟩
  ·rw [hd, List.all_nil,Bool.true_and] at hi
   repeat' (cbv; first|refine .y ?_|refine .n ?_|refine .s (fun hc=>?_) fun hc=>?_|refine .a fun v hv=>?_|refine .d ?_|refine .u fun vr vn hvr hvn hvl=>?_|fail)
   all_goals (try cbv)
   ·have hbe:b=false:=by rw [hi,decide_eq_false (by omega)]; rfl
    subst hbe; refine hQ _ ?_; exact ⟨rfl,rfl,rfl,rfl,rfl⟩
   ·rw [decide_eq_true (p:=ck<=1000000000) (by omega),Bool.true_and] at hi
    refine LoopQ.to (ι:=Int×Int) (fun p=>⟨tab .undef [(1,.ptr 100 0),(3,.int .i64 p.2),(6,.int .i64 p.1)],tab .dead [(100,.box (stL rp rg rq rm rl c0 c1 c2 c3 r0 r1 r2 r3 rt ck pr))]⟩)
     (fun p=>(p.1=0/\p.2=n0)\/(p.1=1/\p.2=n0+z0)\/(p.1=2/\p.2=n0+z0+z1)\/(p.1=3/\p.2=n0+z0+z1+z2)\/(p.1=4/\p.2=n0+z0+z1+z2+z3)) (fun p=>(4 - p.1).toNat) (0,n0) (.inl ⟨rfl,rfl⟩) rfl fun ⟨i,n⟩ hin A hA=>?_
    dsimp only at hin ⊢
    rcases hin with ⟨rfl,hn⟩|⟨rfl,hn⟩|⟨rfl,hn⟩|⟨rfl,hn⟩|⟨rfl,hn⟩
    ·repeat' (cbv; first|refine .y ?_|refine .n ?_|refine .s (fun hc=>?_) fun hc=>?_|refine .a fun v hv=>?_|refine .d ?_|refine .u fun vr vn hvr hvn hvl=>?_|fail)
     all_goals (try cbv)
     exact hA (_,_) _ (.inr (.inl ⟨hv,by dsimp only; omega⟩)) (by dsimp only; omega) rfl
    ·repeat' (cbv; first|refine .y ?_|refine .n ?_|refine .s (fun hc=>?_) fun hc=>?_|refine .a fun v hv=>?_|refine .d ?_|refine .u fun vr vn hvr hvn hvl=>?_|fail)
     all_goals (try cbv)
     exact hA (_,_) _ (.inr (.inr (.inl ⟨hv,by dsimp only; omega⟩))) (by dsimp only; omega) rfl
    ·repeat' (cbv; first|refine .y ?_|refine .n ?_|refine .s (fun hc=>?_) fun hc=>?_|refine .a fun v hv=>?_|refine .d ?_|refine .u fun vr vn hvr hvn hvl=>?_|fail)
     all_goals (try cbv)
     exact hA (_,_) _ (.inr (.inr (.inr (.inl ⟨hv,by dsimp only; omega⟩)))) (by dsimp only; omega) rfl
    ·repeat' (cbv; first|refine .y ?_|refine .n ?_|refine .s (fun hc=>?_) fun hc=>?_|refine .a fun v hv=>?_|refine .d ?_|refine .u fun vr vn hvr hvn hvl=>?_|fail)
     all_goals (try cbv)
     exact hA (_,_) _ (.inr (.inr (.inr (.inr ⟨hv,by dsimp only; omega⟩)))) (by dsimp only; omega) rfl
    ·cases tp with
     |false =>
      try rw [<- hP] at cp
      repeat' (cbv; first|refine .y ?_|refine .n ?_|refine .s (fun hc=>?_) fun hc=>?_|refine .gq cp ?_|refine .a fun v hv=>?_|refine .d ?_|refine .u fun vr vn hvr hvn hvl=>?_|fail)
      all_goals (try cbv)
      have hbe:b=false:=by rw [hi]; rfl
      subst hbe; refine hQ _ ?_; exact ⟨rfl,rfl,rfl,rfl,rfl⟩
     |true =>
      rw [Bool.true_and] at hi
      try rw [<- hP] at cp
      repeat' (cbv; first|refine .y ?_|refine .n ?_|refine .s (fun hc=>?_) fun hc=>?_|refine .gq cp ?_|refine .a fun v hv=>?_|refine .d ?_|refine .u fun vr vn hvr hvn hvl=>?_|fail)
      all_goals (try cbv)
      all_goals first
       |(
         have hbe:b=true:=by rw [hi]; exact decide_eq_true (by omega)
         subst hbe; (refine hQ _ ?_; exact ⟨rfl,rfl,rfl,rfl,rfl⟩))
       |(
         have hbe:b=false:=by rw [hi]; exact decide_eq_false (by omega)
         subst hbe; (refine hQ _ ?_; exact ⟨rfl,rfl,rfl,rfl,rfl⟩))
  ·rw [hd,List.all_cons] at hi
   have ga:=getD_rows h_rq hx
   obtain ⟨x0,x1,⟨x2,x3,x4,x5,x6,x7,x8,x9,x10,x11⟩,x12⟩:=x
   repeat' (cbv; first|refine .y ?_|refine .n ?_|refine .s (fun hc=>?_) fun hc=>?_|refine .row ga ?_|refine .a fun v hv=>?_|refine .d ?_|refine .u fun vr vn hvr hvn hvl=>?_|fail)
   all_goals (try cbv)
   ·have hbe:b=false:=by rw [hi,decide_eq_false (by dsimp only; omega)]; rfl
    subst hbe; refine hQ _ ?_; exact ⟨rfl,rfl,rfl,rfl,rfl⟩
   ·rw [decide_eq_true (by dsimp only; omega),Bool.true_and] at hi
    exact hA _ _ ⟨by omega,by omega,by rw [hi,show v.toNat=i.toNat+1 by omega]⟩ (by omega) rfl
 ·rw [hd,List.all_cons] at hi
  have ga:=getD_rows h_rg hx
  obtain ⟨x0,x1,x2,x3,x4⟩:=x
  repeat' (cbv; first|refine .y ?_|refine .n ?_|refine .s (fun hc=>?_) fun hc=>?_|refine .row ga ?_|refine .a fun v hv=>?_|refine .d ?_|refine .u fun vr vn hvr hvn hvl=>?_|fail)
  all_goals (try cbv)
  ·have hbe:b=false:=by rw [hi,decide_eq_false (by dsimp only; omega)]; rfl
   subst hbe; refine hQ _ ?_; exact ⟨rfl,rfl,rfl,rfl,rfl⟩
  ·rw [decide_eq_true (by dsimp only; omega),Bool.true_and] at hi
   exact hA _ _ ⟨by omega,by omega,by rw [hi,show v.toNat=i.toNat+1 by omega]⟩ (by omega) rfl
end Go.Ab

namespace Go.Ab
open Go Go.Proofs
set_option maxRecDepth 100000
theorem shR_fT (l:List (List ID)):V.shR (l.map fT)=l.map fC:=by
 induction l with
 |nil=>rfl
 |cons f l ih =>
  have h:=shR_jC f
  simp only [List.map_cons,V.shR,ih,fT,fC,V.shL,V.sh,h]
theorem q93 (s:SD) (hs:Fit s):CallsV Try.prog 93 [.agg (stC s)] (.agg (stO s)) [.undef] false:=by
 have h:=(c93 s hs).asRead
 have e:(V.agg (stT s)).sh=.agg (stO s):=by
  simp only [V.sh,V.shL,stT,stO,shR_fT,shR_gC,shR_pC,shR_mC,shR_iC,shR_tC]
 rwa [e] at h
theorem fit_small {s:SD} (h:smallS s=true):Fit s:=by
 unfold smallS smallPr at h
 simp only [Bool.and_eq_true,List.all_eq_true,decide_eq_true_eq] at h
 obtain ⟨⟨⟨_,_⟩,h1,h2⟩,h3,h4,h5,h6⟩:=h
 exact ⟨by omega,fun f hf=>by have:=h1 f hf; omega,by omega,by omega,by omega,by omega,by omega,by omega,by omega,by omega,by omega⟩
end Go.Ab

namespace Go.Ab
open Go Go.Proofs
set_option maxRecDepth 100000
theorem q38y (s:SD) (hs:Fit s):CallsV Try.prog 38 [.agg (stC s)] (.agg (stR_ s)) [.undef] false:=by
 have h:=(c38y s hs).asRead
 have e:(V.agg (cpY s)).sh=.agg (stR_ s):=by
  simp only [V.sh,V.shL,cpY,stR_,stH,shR_fT,shR_gC,shR_pC,shR_mC,shR_iC,shR_tC]
 rwa [e] at h
theorem sq_of {s:SD} (hs:smallS s=true):∀ x∈s.gs,x.sq<=1000000:=by
 intro x hx
 unfold smallS at hs
 simp only [Bool.and_eq_true,List.all_eq_true,decide_eq_true_eq] at hs
 exact hs.1.1.1.1 x hx
theorem AppL.kn {n bytes m:Nat} {rs ys rs':List (List V)} {K:List (List V)->Nat->Prop} (h:rs ++ ys=rs') (hm:m=rs'.length) (k:K rs' m) (h1:n=rs.length:=by first|rfl|assumption|omega)
  (h2:(rs.length+ys.length) * bytes<=140737488355328:=by first|omega|(simp only [List.length_cons,List.length_nil]; omega)):AppL n bytes (fun _=>rs) (fun _=>ys) K :=
 .to h1 h2 fun v w a b _=>by subst h; subst a; subst hm; subst b; exact k
theorem get_of {α:Type} {l:List α} {i:Nat} {d:α} (h:i < l.length):l[i]?=some (l.getD i d):=by
 rw [List.getD_eq_getElem?_getD,List.getElem?_eq_getElem h]; rfl
end Go.Ab
