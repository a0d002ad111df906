/-
  A copy whose slices are all own.
  ready: a G is out of all that waits; it is woken.
  R09.At: the ring of a list, from a place on.
-/
import Derived.Test.YtkanpbjjabdalaaK8
import Derived.Test.YtkanpbjjabdalaaK10
import Derived.Test.YtkanpbjjabdalaaK22
import Derived.Test.YtkanpbjjabdalaaK23
import Derived.Test.YtkanpbjjabdalaaK27
import Derived.Test.YtkanpbjjabdalaaK28
import Derived.Test.YtkanpbjjabdalaaK29
import Derived.Test.YtkanpbjjabdalaaK30
set_option linter.all false
namespace Go.Ab
open Go Go.Proofs
set_option maxRecDepth 100000
def cpZ (s:SD):List V :=
 [.own 1 (s.prog.map fT),.own 5 (s.gs.map gC),.own 13 (s.ps.map pC),.own 2 (s.ms.map mC),.own 1 (s.gl.map iC),.int .i64 s.c0,.int .i64 s.c1,.int .i64 s.c2,.int .i64 s.c3,.own 1 (s.w0.map iC),.own 1 (s.w1.map iC),.own 1 (s.w2.map iC),.own 1 (s.w3.map iC),.own 2 (s.ts.map tC),.int .i64 s.ck,.int .i64 s.pr]
def wz (p j r n:Nat) (rows:List (List V)):V:=if j < p then .sref r 0 n else .sl false 1 rows
set_option maxHeartbeats 8000000 in
theorem c38z (s:SD) (hs:Fit s):CallsV Try.prog 38 [.agg (stC s)] (.agg (cpZ s)) [.undef] true:=by
 have hcode:=hs.code
 have hprog:=hs.prog
 have cf:=r_CloneF s.prog hs.prog
 have cg:=r_CloneG s.gs hs.gs
 have cq:=r_CloneP s.ps hs.ps
 have cm:=r_CloneM s.ms hs.ms
 have cl:=r_CloneInt s.gl hs.gl
 have ct:=r_CloneT s.ts hs.ts
 have k0:=r_CloneInt s.w0 hs.w0
 have k1:=r_CloneInt s.w1 hs.w1
 have k2:=r_CloneInt s.w2 hs.w2
 have k3:=r_CloneInt s.w3 hs.w3
 have ff:FrR _:=⟨fr_fT s.prog⟩
 have fg:FrR _:=⟨fr_gC s.gs⟩
 have fq:FrR _:=⟨fr_pC s.ps⟩
 have fm:FrR _:=⟨fr_mC s.ms⟩
 have fl:FrR _:=⟨fr_iC s.gl⟩
 have f0:FrR _:=⟨fr_iC s.w0⟩
 have f1:FrR _:=⟨fr_iC s.w1⟩
 have f2:FrR _:=⟨fr_iC s.w2⟩
 have f3:FrR _:=⟨fr_iC s.w3⟩
 have ft:FrR _:=⟨fr_tC s.ts⟩
 clear hs
 unfold cpZ
 obtain ⟨prog,gs,ps,ms,gl,c0,c1,c2,c3,w0,w1,w2,w3,ts,ck,pr⟩:=s
 obtain ⟨rp,rg,rq,rm,rl,r0,r1,r2,r3,rt,⟨h_rp,s_rp,l_rp⟩,⟨h_rg,s_rg,l_rg⟩,⟨h_rq,s_rq,l_rq⟩,⟨h_rm,s_rm,l_rm⟩,⟨h_rl,s_rl,l_rl⟩,⟨h_r0,s_r0,l_r0⟩,⟨h_r1,s_r1,l_r1⟩,⟨h_r2,s_r2,l_r2⟩,⟨h_r3,s_r3,l_r3⟩,⟨h_rt,s_rt,l_rt⟩,hst_⟩:=stR prog gs ps ms gl c0 c1 c2 c3 w0 w1 w2 w3 ts ck pr
 dsimp only at hcode hprog cf cg cq cm cl ct k0 k1 k2 k3 ff fg fq fm fl f0 f1 f2 f3 ft
 rw [hst_]
 rw [<- h_rp] at cf
 rw [<- h_rg] at cg fg
 rw [<- h_rq] at cq fq
 rw [<- h_rm] at cm fm
 rw [<- h_rl] at cl fl
 rw [<- h_rt] at ct ft
 rw [<- h_r0] at k0 f0
 rw [<- h_r1] at k1 f1
 rw [<- h_r2] at k2 f2
 rw [<- h_r3] at k3 f3
 dsimp only
 rw [<- h_rg,<- h_rq,<- h_rm,<- h_rl,<- h_r0,<- h_r1,<- h_r2,<- h_r3,<- h_rt]
 obtain ⟨rp',h_rp'⟩ : ∃ r,r=prog.map fT:=⟨_,rfl⟩
 rw [<- h_rp'] at ff ⊢
 have lrp':rp'.length=rp.length:=by rw [h_rp',h_rp]; simp
 clear hst_ h_rg h_rq h_rm h_rl h_r0 h_r1 h_r2 h_r3 h_rt l_rg l_rq l_rm l_rl l_r0 l_r1 l_r2 l_r3 l_rt
 refine callsV_l hD Try.func38 ok38z rfl rfl (by simp only [List.map_cons,List.map_nil,V.sh,V.shL,stL,stN,stK,stH,s_rp,s_rg,s_rq,s_rm,s_rl,s_r0,s_r1,s_r2,s_r3,s_rt]) fun P L Q hP hL hQ=>?_
 have lp:L rp=rp.length:=hL rp
 rw [<- hP] at cf cg cq cm cl ct k0 k1 k2 k3
 obtain ⟨mp,hmp⟩ : ∃ n:Int,0<=n/\n.toNat=L rp:=⟨L rp,by omega,by omega⟩
 repeat' (cbv; first|refine .y ?_|refine .n ?_|refine .s (fun hc=>?_) fun hc=>?_|refine .x ?_|refine .r ?_|refine .e fun v hv=>?_|refine .a fun v hv=>?_|refine .d ?_|refine .u fun vr vn hvr hvn hvl=>?_|fail)
 all_goals (try cbv)
 refine LoopQ.to (ι:=CyI) (fun p=>⟨tab .undef [(1,.ptr 100 0),(2,.ptr 101 0),(12,.sref 112 0 (L rp)),(13,.int .i64 mp),(14,.int .i64 p.i)],tab .dead [(100,.box [.sref 112 0 (L rp),.sl false 5 rg,.sl false 13 rq,.sl false 2 rm,.sl false 1 rl,.int .i64 c0,.int .i64 c1,.int .i64 c2,.int .i64 c3,.sl false 1 r0,.sl false 1 r1,.sl false 1 r2,.sl false 1 r3,.sl false 2 rt,.int .i64 ck,.int .i64 pr]),
  (101,.box [.nils 1,.nils 5,.nils 13,.nils 2,.nils 1,.int .i64 0,.int .i64 0,.int .i64 0,.int .i64 0,.nils 1,.nils 1,.nils 1,.nils 1,.nils 2,.int .i64 0,.int .i64 0]),(112,.rows 1 p.rs)]⟩)
  (fun p=>0<=p.i/\p.i.toNat<=prog.length/\p.rs=(prog.take p.i.toNat).map fT ++ (prog.drop p.i.toNat).map fC) (fun p=>prog.length - p.i.toNat) ⟨0,rp⟩ ⟨by simp,by simp,by simpa using h_rp⟩ rfl fun ⟨i,rs⟩ ⟨i0,i1,hrs⟩ A hA=>?_
 dsimp only at i0 i1 hrs ⊢
 rcases drop_cases i1 with ⟨e,hd⟩|⟨hlt,x,hd,hx⟩
 ·have hrs':rs=rp':=by rw [hrs,e,h_rp']; simp
  subst hrs'
  have lE:L rp=L rs:=by rw [hL,hL]; omega
  clear hrs hd h_rp' hcode
  repeat' (cbv; first|refine .y ?_|refine .n ?_|refine .s (fun hc=>?_) fun hc=>?_|refine .x ?_|refine .r ?_|refine .e fun v hv=>?_|refine .a fun v hv=>?_|refine .d ?_|refine .u fun vr vn hvr hvn hvl=>?_|fail)
  all_goals (try cbv)
  refine LoopQ.to (ι:=Int×Nat) (fun p=>⟨tab .undef [(1,.ptr 100 0),(2,.ptr 101 0),(47,.agg [.sl false 1 r0,.sl false 1 r1,.sl false 1 r2,.sl false 1 r3]),(48,.int .i64 p.1)],tab .dead ([(100,.box [.sref 112 0 (L rp),.sref 113 0 (L rg),.sref 114 0 (L rq),.sref 115 0 (L rm),.sref 116 0 (L rl),.int .i64 c0,.int .i64 c1,.int .i64 c2,.int .i64 c3,wz p.2 0 118 (L r0) r0,wz p.2 1 119 (L r1) r1,wz p.2 2 120 (L r2) r2,wz p.2 3 121 (L r3) r3,.sref 117 0 (L rt),.int .i64 ck,.int .i64 pr]),
   (101,.box [.nils 1,.nils 5,.nils 13,.nils 2,.nils 1,.int .i64 0,.int .i64 0,.int .i64 0,.int .i64 0,.nils 1,.nils 1,.nils 1,.nils 1,.nils 2,.int .i64 0,.int .i64 0]),(112,.rows 1 rs),(113,.rows 5 rg),(114,.rows 13 rq),(115,.rows 2 rm),(116,.rows 1 rl),(117,.rows 2 rt)] ++ [(118,AO.rows 1 r0),(119,.rows 1 r1),(120,.rows 1 r2),(121,.rows 1 r3)].take p.2)⟩)
   (fun p=>(p.1=0/\p.2=0)\/(p.1=1/\p.2=1)\/(p.1=2/\p.2=2)\/(p.1=3/\p.2=3)\/(p.1=4/\p.2=4)) (fun p=>(4 - p.1).toNat) (0,0) (.inl ⟨rfl,rfl⟩) rfl fun ⟨i,n⟩ hp B hB=>?_
  clear cf cg cq cm cl ct
  dsimp only at hp
  rcases hp with ⟨rfl,rfl⟩|⟨rfl,rfl⟩|⟨rfl,rfl⟩|⟨rfl,rfl⟩|⟨rfl,rfl⟩
  ·clear k1 k2 k3
   repeat' (cbv; first|refine .y ?_|refine .n ?_|refine .s (fun hc=>?_) fun hc=>?_|refine .x ?_|refine .r ?_|refine .e fun v hv=>?_|refine .a fun v hv=>?_|refine .d ?_|refine .u fun vr vn hvr hvn hvl=>?_|fail)
   all_goals (try cbv)
   exact hB (v,1) _ (.inr (.inl ⟨by rw [hv]; rfl,rfl⟩)) (by dsimp only; omega) (by cbv)
  ·clear k0 k2 k3
   repeat' (cbv; first|refine .y ?_|refine .n ?_|refine .s (fun hc=>?_) fun hc=>?_|refine .x ?_|refine .r ?_|refine .e fun v hv=>?_|refine .a fun v hv=>?_|refine .d ?_|refine .u fun vr vn hvr hvn hvl=>?_|fail)
   all_goals (try cbv)
   exact hB (v,2) _ (.inr (.inr (.inl ⟨by rw [hv]; rfl,rfl⟩))) (by dsimp only; omega) (by cbv)
  ·clear k0 k1 k3
   repeat' (cbv; first|refine .y ?_|refine .n ?_|refine .s (fun hc=>?_) fun hc=>?_|refine .x ?_|refine .r ?_|refine .e fun v hv=>?_|refine .a fun v hv=>?_|refine .d ?_|refine .u fun vr vn hvr hvn hvl=>?_|fail)
   all_goals (try cbv)
   exact hB (v,3) _ (.inr (.inr (.inr (.inl ⟨by rw [hv]; rfl,rfl⟩)))) (by dsimp only; omega) (by cbv)
  ·clear k0 k1 k2
   repeat' (cbv; first|refine .y ?_|refine .n ?_|refine .s (fun hc=>?_) fun hc=>?_|refine .x ?_|refine .r ?_|refine .e fun v hv=>?_|refine .a fun v hv=>?_|refine .d ?_|refine .u fun vr vn hvr hvn hvl=>?_|fail)
   all_goals (try cbv)
   exact hB (v,4) _ (.inr (.inr (.inr (.inr (⟨by rw [hv]; rfl,rfl⟩))))) (by dsimp only; omega) (by cbv)
  ·repeat' (cbv; first|refine .y ?_|refine .n ?_|refine .s (fun hc=>?_) fun hc=>?_|refine .x ?_|refine .r ?_|refine .e fun v hv=>?_|refine .a fun v hv=>?_|refine .d ?_|refine .u fun vr vn hvr hvn hvl=>?_|fail)
   all_goals (try cbv)
   (refine hQ _ ⟨?_,?_,?_,?_,?_⟩ <;> (try cbv) <;> (repeat' first|exact True.intro|exact rfl|assumption|exact FrR.mk rfl|exact FrS.mk rfl|(rw [hL]; rfl)|refine ⟨?_,?_⟩|fail))
 ·have ht:=take_succ_of hx
  obtain ⟨rf,h_rf⟩ : ∃ r,r=x.map jC:=⟨_,rfl⟩
  have s_rf:V.shR rf=rf:=by rw [h_rf]; exact shR_jC x
  have l_rf:rf.length=x.length:=by simp [h_rf]
  have lf:x.length<=1000000:=hcode x (mem_of_get hx)
  have cx:=r_CloneInstr x lf
  rw [<- h_rf] at cx
  obtain ⟨k,hk⟩ : ∃ k,0+i.toNat=k:=⟨_,rfl⟩
  have hti:((prog.take i.toNat).map fT).length=i.toNat:=by simp; omega
  have hlen:rs.length=rp.length:=by rw [hrs,h_rp]; simp; omega
  have ga:rs.getD k []=[.sl false 2 rf]:=by
   rw [show k=i.toNat by omega,hrs,List.getD_eq_getElem?_getD,List.getElem?_append_right (by omega),hti,Nat.sub_self,hd,List.map_cons,h_rf]; rfl
  obtain ⟨r2,e2,g2,l2,q2⟩:=upd_row (show k < rs.length by omega) ga 0 [.sl true 2 rf]
  have hset:r2=(prog.take (i.toNat+1)).map fT ++ (prog.drop (i.toNat+1)).map fC:=by
   rw [q2,hrs,show k=i.toNat by omega,List.set_append_right _ _ (by omega),hti,Nat.sub_self,hd,List.map_cons,List.set_cons_zero,ht,h_rf,List.map_append]; simp [fT,setR]
  rw [<- hP] at cx
  clear cf cg cq cm cl ct k0 k1 k2 k3 hrs hd hx ht h_rp h_rp' ff fg fq fm fl f0 f1 f2 f3 ft hcode q2
  repeat' (cbv; first|refine .y ?_|refine .n ?_|refine .s (fun hc=>?_) fun hc=>?_|refine .x ?_|refine .r ?_|refine .e fun v hv=>?_|refine .a fun v hv=>?_|refine .d ?_|refine .u fun vr vn hvr hvn hvl=>?_|fail)
  all_goals (try cbv)
  exact hA ⟨v,r2⟩ _ ⟨by dsimp only; omega,by dsimp only; omega,by dsimp only; rw [hset,show v.toNat=i.toNat+1 by omega]⟩ (by dsimp only; omega) (by cbv)
theorem q38z {P:Program} {F:Fs} (hP:P=Try.prog) (hF:F=fs) (s:SD) (hs:Fit s):CallsV P 38 [.agg (stS F s)] (.agg (stF F .o .o s)) [.undef] false:=by
 have h:=(c38z s hs).asRead
 have e:(V.agg (cpZ s)).sh=.agg (stO s):=by
  simp only [V.sh,V.shL,cpZ,stO,shR_fT,shR_gC,shR_pC,shR_mC,shR_iC,shR_tC]
 rw [e] at h
 rwa [stS_C hF,stF_O hF,<- hP] at h
end Go.Ab

namespace Go.Ab
open Go Go.Proofs
set_option maxRecDepth 100000
variable {P:Program} {F:Fs}
def byN {α:Type} (p j:Nat) (a b:α):α:=if j < p then a else b
set_option maxHeartbeats 8000000 in
theorem d39 (hP:P=Try.prog) (hF:F=fs) (s t:SD) (g:Int) (hs:Fit s) (ht:t=outS s g) :
  CallsV P 39 [.io (stF F .o .o s),.int .i64 g] (.tup []) [.io (stF F .o .o t),.undef] true:=by
 have kt:=c91 s.ts hs.ts 92 g _ (predT_out g)
 have k0:=c89 s.w0 hs.w0 90 g _ (pred_out g)
 have k1:=c89 s.w1 hs.w1 90 g _ (pred_out g)
 have k2:=c89 s.w2 hs.w2 90 g _ (pred_out g)
 have k3:=c89 s.w3 hs.w3 90 g _ (pred_out g)
 have eI:∀ l:List Int,l.map iC=F.m iC l:=fun l=>by rw [hF]; rfl
 have eT:∀ l:List TD,l.map tC=F.m tC l:=fun l=>by rw [hF]; rfl
 rw [eI,eI,<- hP] at k0 k1 k2 k3
 rw [eT,eT,<- hP] at kt
 obtain ⟨u0,h0⟩ : ∃ u,u=s.w0.filter fun x=>!decide (x=g):=⟨_,rfl⟩
 obtain ⟨u1,h1⟩ : ∃ u,u=s.w1.filter fun x=>!decide (x=g):=⟨_,rfl⟩
 obtain ⟨u2,h2⟩ : ∃ u,u=s.w2.filter fun x=>!decide (x=g):=⟨_,rfl⟩
 obtain ⟨u3,h3⟩ : ∃ u,u=s.w3.filter fun x=>!decide (x=g):=⟨_,rfl⟩
 obtain ⟨ut,hu⟩ : ∃ u,u=s.ts.filter fun x=>!decide (x.g=g):=⟨_,rfl⟩
 rw [<- h0] at k0
 rw [<- h1] at k1
 rw [<- h2] at k2
 rw [<- h3] at k3
 rw [<- hu] at kt
 have et:t={ s with w0:=u0,w1:=u1,w2:=u2,w3:=u3,ts:=ut }:=by
  rw [ht,h0,h1,h2,h3,hu]; unfold outS; simp only [decide_not]
 clear eI eT ht h0 h1 h2 h3 hu hs
 refine callsV_f hD Try.func39 ok39 hP hF (by simp only [List.map_cons,List.map_nil,V.sh,sh_F hF,sh_O hF,sh_F' hF,sh_S hF]) fun R hQ=>?_
 repeat' (cbv; first|refine .y ?_|refine .n ?_|refine .s (fun hc=>?_) fun hc=>?_|refine .v ?_|refine .r ?_|refine .e fun v hv=>?_|refine .a fun v hv=>?_|refine .d ?_|refine .fa ?_|refine .f1 ?_|refine .u fun vr vn hvr hvn hvl=>?_|fail)
 all_goals (try cbv)
 refine LoopQ.to (ι:=Int×Nat) (fun q=>⟨tab .undef [(0,.ptr 100 0),(3,.ptr 111 0),(9,.agg [byN q.2 0 .undef (.sref 106 0 (F.l (F.m iC s.w0))),byN q.2 1 .undef (.sref 107 0 (F.l (F.m iC s.w1))),byN q.2 2 .undef (.sref 108 0 (F.l (F.m iC s.w2))),byN q.2 3 .undef (.sref 109 0 (F.l (F.m iC s.w3)))]),(10,.int .i64 q.1)],
  tab
    .dead ([(100,.box [.sref 101 0 (F.l (F.m fC s.prog)),.sref 102 0 (F.l (F.m gC s.gs)),.sref 103 0 (F.l (F.m pC s.ps)),.sref 104 0 (F.l (F.m mC s.ms)),.sref 105 0 (F.l (F.m iC s.gl)),.int .i64 s.c0,.int .i64 s.c1,.int .i64 s.c2,.int .i64 s.c3,
    byN q.2 0 (.sref 112 0 (F.l (F.m iC u0))) (.sref 106 0 (F.l (F.m iC s.w0))),byN q.2 1 (.sref 113 0 (F.l (F.m iC u1))) (.sref 107 0 (F.l (F.m iC s.w1))),byN q.2 2 (.sref 114 0 (F.l (F.m iC u2))) (.sref 108 0 (F.l (F.m iC s.w2))),byN q.2 3 (.sref 115 0 (F.l (F.m iC u3))) (.sref 109 0 (F.l (F.m iC s.w3))),
    .sref 110 0 (F.l (F.m tC s.ts)),.int .i64 s.ck,.int .i64 s.pr]),
   (101,.rows 1 (F.m fC s.prog)),(102,.rows 5 (F.m gC s.gs)),(103,.rows 13 (F.m pC s.ps)),(104,.rows 2 (F.m mC s.ms)),(105,.rows 1 (F.m iC s.gl))] ++ [(106,AO.rows 1 (F.m iC s.w0)),(107,.rows 1 (F.m iC s.w1)),(108,.rows 1 (F.m iC s.w2)),(109,.rows 1 (F.m iC s.w3))].drop q.2 ++ [(110,.rows 2 (F.m tC s.ts)),(111,.box [.int .i64 g])] ++
   [(112,AO.rows 1 (F.m iC u0)),(113,.rows 1 (F.m iC u1)),(114,.rows 1 (F.m iC u2)),(115,.rows 1 (F.m iC u3))].take q.2)⟩)
  (fun q=>(q.1=0/\q.2=0)\/(q.1=1/\q.2=1)\/(q.1=2/\q.2=2)\/(q.1=3/\q.2=3)\/(q.1=4/\q.2=4)) (fun q=>(4 - q.1).toNat) (0,0) (.inl ⟨rfl,rfl⟩) (by rfl) fun ⟨i,n⟩ hp B hB=>?_
 dsimp only at hp
 rcases hp with ⟨rfl,rfl⟩|⟨rfl,rfl⟩|⟨rfl,rfl⟩|⟨rfl,rfl⟩|⟨rfl,rfl⟩
 ·repeat' (cbv; first|refine .y ?_|refine .n ?_|refine .s (fun hc=>?_) fun hc=>?_|refine .z k0 ?_|refine .v ?_|refine .r ?_|refine .e fun v hv=>?_|refine .a fun v hv=>?_|refine .d ?_|refine .fa ?_|refine .f1 ?_|refine .u fun vr vn hvr hvn hvl=>?_|fail)
  all_goals (try cbv)
  exact hB (v,1) _ (.inr (.inl ⟨by rw [hv]; rfl,rfl⟩)) (by dsimp only; omega) (by cbv)
 ·repeat' (cbv; first|refine .y ?_|refine .n ?_|refine .s (fun hc=>?_) fun hc=>?_|refine .z k1 ?_|refine .v ?_|refine .r ?_|refine .e fun v hv=>?_|refine .a fun v hv=>?_|refine .d ?_|refine .fa ?_|refine .f1 ?_|refine .u fun vr vn hvr hvn hvl=>?_|fail)
  all_goals (try cbv)
  exact hB (v,2) _ (.inr (.inr (.inl ⟨by rw [hv]; rfl,rfl⟩))) (by dsimp only; omega) (by cbv)
 ·repeat' (cbv; first|refine .y ?_|refine .n ?_|refine .s (fun hc=>?_) fun hc=>?_|refine .z k2 ?_|refine .v ?_|refine .r ?_|refine .e fun v hv=>?_|refine .a fun v hv=>?_|refine .d ?_|refine .fa ?_|refine .f1 ?_|refine .u fun vr vn hvr hvn hvl=>?_|fail)
  all_goals (try cbv)
  exact hB (v,3) _ (.inr (.inr (.inr (.inl ⟨by rw [hv]; rfl,rfl⟩)))) (by dsimp only; omega) (by cbv)
 ·repeat' (cbv; first|refine .y ?_|refine .n ?_|refine .s (fun hc=>?_) fun hc=>?_|refine .z k3 ?_|refine .v ?_|refine .r ?_|refine .e fun v hv=>?_|refine .a fun v hv=>?_|refine .d ?_|refine .fa ?_|refine .f1 ?_|refine .u fun vr vn hvr hvn hvl=>?_|fail)
  all_goals (try cbv)
  exact hB (v,4) _ (.inr (.inr (.inr (.inr ⟨by rw [hv]; rfl,rfl⟩)))) (by dsimp only; omega) (by cbv)
 ·repeat' (cbv; first|refine .y ?_|refine .n ?_|refine .s (fun hc=>?_) fun hc=>?_|refine .z kt ?_|refine .v ?_|refine .r ?_|refine .e fun v hv=>?_|refine .a fun v hv=>?_|refine .d ?_|refine .fa ?_|refine .f1 ?_|refine .u fun vr vn hvr hvn hvl=>?_|fail)
  all_goals (try cbv)
  (refine hQ _ ⟨?_,?_,?_,?_,?_⟩ <;> (try cbv) <;> (repeat' first|exact True.intro|exact rfl|assumption|exact lenU|exact frM|exact FrR.mk rfl|exact FrS.mk rfl|refine ⟨?_,?_⟩|(subst_vars; rfl)|fail))
set_option maxHeartbeats 4000000 in
theorem d14f (hP:P=Try.prog) (hF:F=fs) (s:SD) (hs:Fit s) (p g:Int) (hb:wakeOk s p g=false) :
  CallsV P 14 [.agg (stS F s),.int .i64 p,.int .i64 g] (.tup [zeroV,.int .i64 1]) [.undef,.undef,.undef] true:=by
 obtain ⟨k,hk⟩ : ∃ k,F.n s.gs=k:=⟨_,rfl⟩
 have hk':k=s.gs.length:=by rw [<- hk,nG hF]
 have hk6:k<=1000000:=by have:=hs.gs; omega
 unfold wakeOk at hb
 have k1:=q_May hP hF s hs _ rfl
 cases hm:mayS s with
 |false =>
  rw [hm] at k1
  refine callsV_f hD Try.func14 ok14 hP hF (by simp only [List.map_cons,List.map_nil,V.sh,sh_F hF,sh_O hF,sh_F' hF,sh_S hF]) fun R hQ=>?_
  repeat' (cbv; first|refine .y ?_|refine .n ?_|refine .s (fun hc=>?_) fun hc=>?_|refine .z k1 ?_|refine .v ?_|refine .r ?_|refine .e fun v hv=>?_|refine .a fun v hv=>?_|refine .d ?_|refine .fa ?_|refine .f1 ?_|refine .u fun vr vn hvr hvn hvl=>?_|fail)
  all_goals (try cbv)
  (refine hQ _ ⟨?_,?_,?_,?_,?_⟩ <;> (try cbv) <;> (repeat' first|exact True.intro|exact rfl|assumption|exact lenU|exact frM|exact FrR.mk rfl|exact FrS.mk rfl|refine ⟨?_,?_⟩|(subst_vars; rfl)|fail))
 |true =>
  rw [hm] at k1
  rw [hm,Bool.true_and,decide_eq_false_iff_not] at hb
  by_cases hc:1<=p/\p<=s.pr
  ·have k2:=c37 hP hF p s.pr true (by simpa using hc)
   by_cases hd:1<=g/\g<=k
   ·have k3:=c37 hP hF g k true (by simpa using hd)
    have hi:In F s.gs g:=⟨hd.1,by rw [hk]; exact hd.2⟩
    obtain ⟨x0,x1,x2,x3,x4,hx,ex0,ex1,ex2,ex3,ex4⟩:=elG (F.g s.gs g)
    have hx2:x2≠3:=fun e=>hb ⟨hc.1,hc.2,hd.1,by omega,by rw [<- gG hF,<- ex2]; exact e⟩
    clear hb ex2 hk' hs hm
    refine callsV_f hD Try.func14 ok14 hP hF (by simp only [List.map_cons,List.map_nil,V.sh,sh_F hF,sh_O hF,sh_F' hF,sh_S hF]) fun R hQ=>?_
    repeat' (cbv; first|refine .y ?_|refine .n ?_|refine .s (fun hc=>?_) fun hc=>?_|refine .z k1 ?_|refine .z k2 ?_|refine .z k3 ?_|refine .v ?_|refine .r ?_|refine .e fun v hv=>?_|refine .a fun v hv=>?_|refine .d ?_|refine .fa ?_|refine .f1 ?_|refine .u fun vr vn hvr hvn hvl=>?_|fail)
    all_goals (try cbv)
    (refine hQ _ ⟨?_,?_,?_,?_,?_⟩ <;> (try cbv) <;> (repeat' first|exact True.intro|exact rfl|assumption|exact lenU|exact frM|exact FrR.mk rfl|exact FrS.mk rfl|refine ⟨?_,?_⟩|(subst_vars; rfl)|fail))
   ·have k3:=c37 hP hF g k false (by simpa using hd)
    refine callsV_f hD Try.func14 ok14 hP hF (by simp only [List.map_cons,List.map_nil,V.sh,sh_F hF,sh_O hF,sh_F' hF,sh_S hF]) fun R hQ=>?_
    repeat' (cbv; first|refine .y ?_|refine .n ?_|refine .s (fun hc=>?_) fun hc=>?_|refine .z k1 ?_|refine .z k2 ?_|refine .z k3 ?_|refine .v ?_|refine .r ?_|refine .e fun v hv=>?_|refine .a fun v hv=>?_|refine .d ?_|refine .fa ?_|refine .f1 ?_|refine .u fun vr vn hvr hvn hvl=>?_|fail)
    all_goals (try cbv)
    (refine hQ _ ⟨?_,?_,?_,?_,?_⟩ <;> (try cbv) <;> (repeat' first|exact True.intro|exact rfl|assumption|exact lenU|exact frM|exact FrR.mk rfl|exact FrS.mk rfl|refine ⟨?_,?_⟩|(subst_vars; rfl)|fail))
  ·have k2:=c37 hP hF p s.pr false (by simpa using hc)
   refine callsV_f hD Try.func14 ok14 hP hF (by simp only [List.map_cons,List.map_nil,V.sh,sh_F hF,sh_O hF,sh_F' hF,sh_S hF]) fun R hQ=>?_
   repeat' (cbv; first|refine .y ?_|refine .n ?_|refine .s (fun hc=>?_) fun hc=>?_|refine .z k1 ?_|refine .z k2 ?_|refine .v ?_|refine .r ?_|refine .e fun v hv=>?_|refine .a fun v hv=>?_|refine .d ?_|refine .fa ?_|refine .f1 ?_|refine .u fun vr vn hvr hvn hvl=>?_|fail)
   all_goals (try cbv)
   (refine hQ _ ⟨?_,?_,?_,?_,?_⟩ <;> (try cbv) <;> (repeat' first|exact True.intro|exact rfl|assumption|exact lenU|exact frM|exact FrR.mk rfl|exact FrS.mk rfl|refine ⟨?_,?_⟩|(subst_vars; rfl)|fail))
set_option maxHeartbeats 4000000 in
theorem d14t (hP:P=Try.prog) (hF:F=fs) (s t:SD) (hs:Fit s) (p g:Int) (hb:wakeOk s p g=true) (ht:t=wakeS s p g) :
  CallsV P 14 [.agg (stS F s),.int .i64 p,.int .i64 g] (.tup [.agg (stF F .o .o t),.int .i64 0]) [.undef,.undef,.undef] false:=by
 unfold wakeOk at hb
 simp only [Bool.and_eq_true,decide_eq_true_eq] at hb
 obtain ⟨hm,p1,p2,g1,g2,h3⟩:=hb
 have ho:=(may_ok s).1 hm
 have h8:=ho.p8
 have hpr:=ho.pr8
 have hgs:=hs.gs
 obtain ⟨k,hk⟩ : ∃ k,F.n s.gs=k:=⟨_,rfl⟩
 have hk':k=s.gs.length:=by rw [<- hk,nG hF]
 have k1:=q_May hP hF s hs _ hm.symm
 have k2:=c37 hP hF p s.pr true (by simp; omega)
 have k3:=c37 hP hF g k true (by simp; omega)
 have k4:=q38z hP hF s hs
 have nGs:F.n s.gs<=1000000:=by rw [nG hF]; omega
 have nPs:F.n s.ps<=1000000:=by rw [nP hF]; omega
 have nGl:F.n s.gl<=1000000:=by rw [nL hF]; have:=hs.gl; omega
 obtain ⟨u0,h0⟩ : ∃ u,u=s.w0.filter fun x=>decide (x≠g):=⟨_,rfl⟩
 obtain ⟨u1,h1⟩ : ∃ u,u=s.w1.filter fun x=>decide (x≠g):=⟨_,rfl⟩
 obtain ⟨u2,h2⟩ : ∃ u,u=s.w2.filter fun x=>decide (x≠g):=⟨_,rfl⟩
 obtain ⟨u3,h4⟩ : ∃ u,u=s.w3.filter fun x=>decide (x≠g):=⟨_,rfl⟩
 obtain ⟨ut,hu⟩ : ∃ u,u=s.ts.filter fun x=>decide (x.g≠g):=⟨_,rfl⟩
 have k5:=d39 hP hF s { s with w0:=u0,w1:=u1,w2:=u2,w3:=u3,ts:=ut } g hs (by rw [h0,h1,h2,h4,hu]; rfl)
 have hi:In F s.ps p:=⟨p1,by rw [nP hF]; omega⟩
 have hj:In F s.gs g:=⟨g1,by omega⟩
 obtain ⟨x0,x1,x2,x3,x4,hx,ex0,ex1,ex2,ex3,ex4⟩:=elG (F.g s.gs g)
 have hx2:x2=3:=by rw [ex2,gG hF]; exact h3
 have hsq:=ho.gs _ (List.mem_of_getElem? (getG_of (s:=s) (p:=g) (by omega)))
 unfold okG at hsq
 simp only [Bool.and_eq_true,decide_eq_true_eq] at hsq
 rw [<- gG hF,<- ex4] at hsq
 obtain ⟨q,hq⟩ : ∃ q,q=x4+1:=⟨_,rfl⟩
 have k6:=d40 hP hF true true { s with w0:=u0,w1:=u1,w2:=u2,w3:=u3,ts:=ut } { s with w0:=u0,w1:=u1,w2:=u2,w3:=u3,ts:=ut,gs:=F.u s.gs g ⟨x0,x1,1,0,q⟩ } g 1 0 hj nGs (by rw [<- ex4]; omega) (by
  subst hq ex0 ex1 ex4; subst hF; rfl)
 obtain ⟨hlt,hxp,hr⟩:=P_of ho p1 p2
 have hnx:(F.g s.ps p).nx=0\/1<=(F.g s.ps p).nx:=by
  rw [gP hF]
  by_cases e:(getP s p).nx=0
  ·exact .inl e
  ·exact .inr (ho.inR _ (List.mem_append_left _ (List.mem_flatMap.2 ⟨getP s p,List.mem_of_getElem? hxp,nx_queue e⟩))).1
 have k7:=d41 hP hF true { s with w0:=u0,w1:=u1,w2:=u2,w3:=u3,ts:=ut,gs:=F.u s.gs g ⟨x0,x1,1,0,q⟩ } t p g hi nPs nGl (by rw [gP hF]; exact hr) hnx (by
  rw [ht]; unfold wakeS
  subst hq ex0 ex1 ex4 h0 h1 h2 h4 hu; subst hF; rfl)
 have hg6:g<=1000000:=by omega
 have hk6:k<=1000000:=by omega
 clear hsq hnx hr hxp hlt hs hm ho h8 hpr hgs hk' g2 p2 h3 ht hq h0 h1 h2 h4 hu
 refine callsV_f hD Try.func14 ok14 hP hF (by simp only [List.map_cons,List.map_nil,V.sh,sh_F hF,sh_O hF,sh_F' hF,sh_S hF]) fun R hQ=>?_
 repeat' (cbv; first|refine .y ?_|refine .n ?_|refine .s (fun hc=>?_) fun hc=>?_|refine .z k1 ?_|refine .z k2 ?_|refine .z k3 ?_|refine .z k4 ?_|refine .z k5 ?_|refine .z k6 ?_|refine .z k7 ?_|refine .v ?_|refine .r ?_|refine .e fun v hv=>?_|refine .a fun v hv=>?_|refine .d ?_|refine .fa ?_|refine .f1 ?_|refine .u fun vr vn hvr hvn hvl=>?_|fail)
 all_goals (try cbv)
 (refine hQ _ ⟨?_,?_,?_,?_,?_⟩ <;> (try cbv) <;> (repeat' first|exact True.intro|exact rfl|assumption|exact lenU|exact frM|exact FrR.mk rfl|exact FrS.mk rfl|refine ⟨?_,?_⟩|(subst_vars; rfl)|fail))
end Go.Ab

namespace Go.Ab
open Go Go.Proofs
set_option maxRecDepth 100000
structure AtI where
 i:Int
 y:RD
def setB (y:RD) (k:Nat) (z:Int):RD :=
 match k with
 |0=>{ y with b0:=z }|1=>{ y with b1:=z }|2=>{ y with b2:=z }|3=>{ y with b3:=z }|4=>{ y with b4:=z }|5=>{ y with b5:=z }|6=>{ y with b6:=z }|7=>{ y with b7:=z }|_=>y
theorem setB_f (y:RD) {k:Nat} (hk:k < 8) (z:Int) {j:Nat} (hj:j < 8):(setB y k z).f j=if j=k then z else y.f j:=by
 have h1:k=0\/k=1\/k=2\/k=3\/k=4\/k=5\/k=6\/k=7:=by omega
 have h2:j=0\/j=1\/j=2\/j=3\/j=4\/j=5\/j=6\/j=7:=by omega
 rcases h1 with rfl|rfl|rfl|rfl|rfl|rfl|rfl|rfl <;> rcases h2 with rfl|rfl|rfl|rfl|rfl|rfl|rfl|rfl <;> rfl
theorem setB_hn (y:RD) (k:Nat) (z:Int):(setB y k z).h=y.h/\(setB y k z).n=y.n:=by
 unfold setB; split <;> exact ⟨rfl,rfl⟩
structure AtOk (h:Int) (l:List Int) (i:Nat) (y:RD):Prop where
 le:i<=l.length
 hh:y.h=h
 nn:y.n=l.length
 at':∀ j:Nat,j < 8->y.f j=if (((j:Int) - h+8) % 8).toNat < i then l.getD (((j:Int) - h+8) % 8).toNat 0 else 0
theorem AtOk.done {h:Int} {l:List Int} {y:RD} (hl:l.length<=8) (o:AtOk h l l.length y):y=atR h l:=by
 have e:∀ j:Nat,j < 8->y.f j=l.getD (((j:Int) - h+8) % 8).toNat 0:=fun j hj=>by
  rw [o.at' j hj]
  split
  ·rfl
  ·rename_i hn; rw [getD_zero (by omega)]
 have e0:=e 0 (by omega); have e1:=e 1 (by omega); have e2:=e 2 (by omega); have e3:=e 3 (by omega)
 have e4:=e 4 (by omega); have e5:=e 5 (by omega); have e6:=e 6 (by omega); have e7:=e 7 (by omega)
 have h1:=o.hh
 have h2:=o.nn
 obtain ⟨b0,b1,b2,b3,b4,b5,b6,b7,hh,n⟩:=y
 simp only [RD.f] at e0 e1 e2 e3 e4 e5 e6 e7 h1 h2
 simp only [atR,mkR,RD.mk.injEq]
 exact ⟨e0,e1,e2,e3,e4,e5,e6,e7,h1,h2⟩
theorem AtOk.step {h:Int} {l:List Int} {i:Nat} {y:RD} (h0:0<=h) (h1:h < 8) (hl:l.length<=8) (o:AtOk h l i y) {z:Int} (hz:l[i]?=some z) {k:Nat} (hk:(k:Int)=(h+i) % 8):AtOk h l (i+1) (setB y k z):=by
 have hlt:=(List.getElem?_eq_some_iff.1 hz).1
 refine ⟨by omega,by rw [(setB_hn y k z).1,o.hh],by rw [(setB_hn y k z).2,o.nn],fun j hj=>?_⟩
 rw [setB_f y (by omega) z hj,o.at' j hj]
 by_cases e:j=k
 ·rw [if_pos e]
  have e2:(((j:Int) - h+8) % 8).toNat=i:=by omega
  rw [e2,if_pos (by omega),List.getD_eq_getElem?_getD,hz]; rfl
 ·rw [if_neg e]
  have e2:(((j:Int) - h+8) % 8).toNat≠i:=by omega
  by_cases e3:(((j:Int) - h+8) % 8).toNat < i
  ·rw [if_pos e3,if_pos (by omega)]
  ·rw [if_neg e3,if_neg (by omega)]
theorem Lt.rem' {a b v:Int} {K:Int->Prop} (hv:v=a % b) (k:K v) (h:0<=a:=by omega) (h':0 < b:=by omega):Lt (fun _=>b≠0) (fun _=>a.tmod b) K:=by
 subst hv
 exact .rem h h' fun w hw=>hw ▸ k
set_option maxHeartbeats 4000000 in
theorem c78 (h:Int) (l:List Int) (h0:0<=h) (h1:h < 8) (hl:l.length<=8):CallsV Try.prog 78 [.int .i64 h,.sl false 1 (l.map iC)] (.agg (rC (atR h l))) [.undef,.undef] true:=by
 obtain ⟨r,hr⟩ : ∃ r,r=atR h l:=⟨_,rfl⟩
 rw [<- hr]
 obtain ⟨ra,h_ra⟩ : ∃ r,r=l.map iC:=⟨_,rfl⟩
 have s_ra:V.shR ra=ra:=by rw [h_ra]; exact shR_iC l
 have l_ra:ra.length=l.length:=by simp [h_ra]
 rw [<- h_ra]
 obtain ⟨m,hm⟩ : ∃ n:Int,0<=n/\n.toNat=ra.length:=⟨ra.length,by omega,by omega⟩
 have o0:AtOk h l 0 ⟨0,0,0,0,0,0,0,0,h,m⟩:=⟨by omega,rfl,by show m=l.length; omega,fun j hj=>by
  rw [if_neg (by omega)]
  have h2:j=0\/j=1\/j=2\/j=3\/j=4\/j=5\/j=6\/j=7:=by omega
  rcases h2 with rfl|rfl|rfl|rfl|rfl|rfl|rfl|rfl <;> rfl⟩
 refine callsV_q hD Try.func78 ok78 rfl rfl (by simp only [List.map_cons,List.map_nil,V.sh,V.shL,stL,s_ra]) fun P Q hP hQ=>?_
 repeat' (cbv; first|refine .y ?_|refine .n ?_|refine .s (fun hc=>?_) fun hc=>?_|refine .x ?_|refine .r ?_|refine .e fun v hv=>?_|refine .a fun v hv=>?_|refine .d ?_|refine .u fun vr vn hvr hvn hvl=>?_|fail)
 all_goals (try cbv)
 refine LoopQ.to (ι:=AtI) (fun q=>⟨tab .undef [(0,.int .i64 h),(1,.sl false 1 ra),(4,.ptr 100 0),(5,.ptr 101 0),(6,.int .i64 q.i)],tab .dead [(100,.box (rC ⟨0,0,0,0,0,0,0,0,0,0⟩)),(101,.box (rC q.y))]⟩)
  (fun q=>0<=q.i/\AtOk h l q.i.toNat q.y) (fun q=>l.length - q.i.toNat) ⟨0,⟨0,0,0,0,0,0,0,0,h,m⟩⟩ ⟨by simp,o0⟩ rfl fun ⟨i,y⟩ ⟨i0,o⟩ A hA=>?_
 dsimp only at i0 o ⊢
 clear o0
 have i1:=o.le
 rcases drop_cases i1 with ⟨e,_⟩|⟨hlt,z,_,hz⟩
 ·rw [e] at o
  have hy:y=r:=by rw [hr]; exact o.done hl
  subst hy
  obtain ⟨b0,b1,b2,b3,b4,b5,b6,b7,hh,n⟩:=y
  clear o hr
  repeat' (cbv; first|refine .y ?_|refine .n ?_|refine .s (fun hc=>?_) fun hc=>?_|refine .x ?_|refine .r ?_|refine .e fun v hv=>?_|refine .a fun v hv=>?_|refine .d ?_|refine .u fun vr vn hvr hvn hvl=>?_|fail)
  all_goals (try cbv)
  (refine hQ _ ?_; exact ⟨rfl,rfl,rfl,rfl,rfl⟩)
 ·have gz:ra.getD i.toNat []=[.int .i64 z]:=getD_rows h_ra hz
  have ho:=fun k hk=>o.step h0 h1 hl hz (k:=k) hk
  obtain ⟨k,hk⟩ : ∃ k:Nat,k=((h+i) % 8).toNat:=⟨_,rfl⟩
  have hn:=ho k (by omega)
  clear o ho hr
  obtain ⟨w,hw⟩ : ∃ w,w=h+i:=⟨_,rfl⟩
  obtain ⟨c,hc9⟩ : ∃ c,c=w % 8:=⟨_,rfl⟩
  have h8:c=0\/c=1\/c=2\/c=3\/c=4\/c=5\/c=6\/c=7:=by omega
  obtain ⟨b0,b1,b2,b3,b4,b5,b6,b7,hh,n⟩:=y
  rcases h8 with e|e|e|e|e|e|e|e
  all_goals
   have hke:k=c.toNat:=by rw [hk,hc9,hw]
   rw [e] at hke
   subst hke
   subst e
   clear h_ra hz
   repeat' (cbv; first|refine .y ?_|refine .n ?_|refine .s (fun hc=>?_) fun hc=>?_|refine Lt.rem' (by assumption) ?_|refine .x ?_|refine .r ?_|refine .e fun v hv=>?_|refine .a fun v hv=>?_|refine .d ?_|refine .u fun vr vn hvr hvn hvl=>?_|fail)
   all_goals (try cbv)
   exact hA ⟨v,_⟩ _ ⟨by dsimp only; omega,by dsimp only; rw [show v.toNat=i.toNat+1 by omega]; exact hn⟩ (by dsimp only; omega) (by cbv)
end Go.Ab
