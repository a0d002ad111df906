/-
  find.steal.
  places.put: what it does to the map, in words of the memory alone.
  places.put at a key that is there.
-/
import Derived.Shelf.Abstract
import Derived.WalkKit
import Derived.OwnWalkIn
import Derived.TacticsInMore
import Derived.Shelf.RegionOpen
import Derived.Maps.AppendAt
import Derived.MapKept
import Derived.Test.YtkanpbjjabdalaaK7
import Derived.Test.YtkanpbjjabdalaaK9
import Derived.Test.YtkanpbjjabdalaaK24
set_option linter.all false
namespace Go.Ab
open Go Go.Proofs
set_option maxRecDepth 100000
theorem setP_self {s:SD} {p:Int} {x:PD} (h:s.ps[p.toNat - 1]?=some x):setP s p x=s:=by
  unfold setP
  have e:s.ps.set (p.toNat - 1) x=s.ps:=by
    refine List.ext_getElem? fun j=>?_
    have hlt:=(List.getElem?_eq_some_iff.1 h).1
    by_cases hj:p.toNat - 1=j
    · subst hj; rw [List.getElem?_set_self hlt,h]
    · rw [List.getElem?_set_ne hj]
  rw [e]
set_option maxHeartbeats 2000000 in
theorem c74n (s:SD) (p v:Int) (hv:v < 1∨s.pr < v∨v=p):CallsV Try.prog 74 [.io (stQ s),.int .i64 p,.int .i64 v] (.int .i64 0) [.io (stQ s),.undef,.undef] true:=by
  obtain ⟨prog,gs,ps,ms,gl,c0,c1,c2,c3,w0,w1,w2,w3,ts,ck,pr⟩:=s
  obtain ⟨rp,rg,rq,rm,rl,r0,r1,r2,r3,rt,⟨h_rp,s_rp,l_rp⟩,⟨h_rg,s_rg,l_rg⟩,⟨h_rq,s_rq,l_rq⟩,⟨h_rm,s_rm,l_rm⟩,⟨h_rl,s_rl,l_rl⟩,⟨h_r0,s_r0,l_r0⟩,⟨h_r1,s_r1,l_r1⟩,⟨h_r2,s_r2,l_r2⟩,⟨h_r3,s_r3,l_r3⟩,⟨h_rt,s_rt,l_rt⟩,hst_⟩:=stR prog gs ps ms gl c0 c1 c2 c3 w0 w1 w2 w3 ts ck pr
  dsimp only at hv
  rw [stQ_mk,← h_rp,← h_rg,← h_rq,← h_rm,← h_rl,← h_r0,← h_r1,← h_r2,← h_r3,← h_rt]
  clear hst_ h_rp h_rg h_rq h_rm h_rl h_r0 h_r1 h_r2 h_r3 h_rt l_rp l_rg l_rm l_rl l_rq l_r0 l_r1 l_r2 l_r3 l_rt
  refine callsV_l hD Try.func74 ok74 rfl rfl (by simp only [List.map_cons,List.map_nil,V.sh,V.shL,stL,stN,stK,stH,s_rp,s_rg,s_rq,s_rm,s_rl,s_r0,s_r1,s_r2,s_r3,s_rt]) fun P L Q hP hL hQ=>?_
  repeat' (cbv; first|refine .y ?_|refine .n ?_|refine .s (fun hc=>?_) fun hc=>?_|refine .x ?_|refine .r ?_|refine .e fun v hv=>?_|refine .a fun v hv=>?_|refine .d ?_|refine .u fun vr vn hvr hvn hvl=>?_|fail)
  all_goals (try cbv)
  all_goals first
    | (refine hQ _ ⟨?_,?_,?_,?_,?_⟩ <;> (try cbv) <;> (repeat' first|exact True.intro|exact rfl|assumption|exact FrR.mk rfl|exact FrS.mk rfl|(rw [hL]; rfl)|refine ⟨?_,?_⟩|fail))
    | (exfalso; omega)
set_option maxHeartbeats 2000000 in
theorem c74z (s:SD) (p v:Int) (v1:1≤v) (v2:v≤s.pr) (hne:v≠p) (v3:v.toNat≤s.ps.length) (hl:s.ps.length≤1000000) (hr:mayR (getP s v).r=true) (he:listR (getP s v).r=[]) :
    CallsV Try.prog 74 [.io (stQ s),.int .i64 p,.int .i64 v] (.int .i64 (nextF s v).2) [.io (stQ (nextF s v).1),.undef,.undef] true:=by
  have cn:=c71 s v 0 v1 v3 hl
  have hx:=getP_of (s:=s) (p:=v) (by omega)
  have ch:=r_Half hr
  have hat:=mayR_at hr
  have hh:=mayR_h hr
  rw [he] at ch hat
  have e0:((getP s v).r.h+(halfK ([]:List Int):Nat)) % 8=(getP s v).r.h:=by unfold halfK; simp; omega
  simp only [List.drop_nil,List.take_nil,List.map_nil] at ch
  rw [e0,← hat] at ch
  obtain ⟨re,hre⟩ : ∃ r,r=([]:List (List V)):=⟨_,rfl⟩
  have lre:re.length=0:=by rw [hre]; rfl
  have sre:V.shR re=re:=by rw [hre]; rfl
  rw [← hre] at ch
  clear hre
  obtain ⟨t,ht⟩ : ∃ t,t=(nextF s v).1:=⟨_,rfl⟩
  obtain ⟨z,hz⟩ : ∃ z,z=(nextF s v).2:=⟨_,rfl⟩
  have et:t={ s with ps:=t.ps }:=by rw [ht]; rfl
  rw [← ht,← hz] at cn ⊢
  obtain ⟨ps',hps'⟩ : ∃ l,l=t.ps:=⟨_,rfl⟩
  rw [← hps'] at et
  subst et
  clear ht hz hps' hat hh he e0 hr
  obtain ⟨x,hxe⟩ : ∃ x,x=getP s v:=⟨_,rfl⟩
  rw [← hxe] at hx ch
  clear hxe
  obtain ⟨xm,xn,⟨b0,b1,b2,b3,b4,b5,b6,b7,xh,xl⟩,xs⟩:=x
  obtain ⟨prog,gs,ps,ms,gl,c0,c1,c2,c3,w0,w1,w2,w3,ts,ck,pr⟩:=s
  obtain ⟨rp,rg,rq,rm,rl,r0,r1,r2,r3,rt,⟨h_rp,s_rp,l_rp⟩,⟨h_rg,s_rg,l_rg⟩,⟨h_rq,s_rq,l_rq⟩,⟨h_rm,s_rm,l_rm⟩,⟨h_rl,s_rl,l_rl⟩,⟨h_r0,s_r0,l_r0⟩,⟨h_r1,s_r1,l_r1⟩,⟨h_r2,s_r2,l_r2⟩,⟨h_r3,s_r3,l_r3⟩,⟨h_rt,s_rt,l_rt⟩,hst_⟩:=stR prog gs ps ms gl c0 c1 c2 c3 w0 w1 w2 w3 ts ck pr
  dsimp only at v2 v3 hl hx ch cn ⊢
  rw [stQ_mk,stQ_mk,← h_rp,← h_rg,← h_rq,← h_rm,← h_rl,← h_r0,← h_r1,← h_r2,← h_r3,← h_rt] at cn ⊢
  obtain ⟨rq',h_rq'⟩ : ∃ r,r=ps'.map pC:=⟨_,rfl⟩
  have s_rq':V.shR rq'=rq':=by rw [h_rq']; exact shR_pC ps'
  have l_rq':rq'.length=ps'.length:=by simp [h_rq']
  rw [← h_rq'] at cn ⊢
  obtain ⟨i,hi⟩ : ∃ i:Int,i=v - 1:=⟨_,rfl⟩
  obtain ⟨k,hk⟩ : ∃ k:Nat,0+i.toNat=k:=⟨_,rfl⟩
  have gx:rq.getD k []=pC ⟨xm,xn,⟨b0,b1,b2,b3,b4,b5,b6,b7,xh,xl⟩,xs⟩:=getD_rows (x:=(⟨xm,xn,⟨b0,b1,b2,b3,b4,b5,b6,b7,xh,xl⟩,xs⟩ : PD)) h_rq (by rw [show k=v.toNat - 1 by omega]; exact hx)
  obtain ⟨ra,ea,ga,la,qa⟩:=upd_row (show k < rq.length by omega) gx 2 [.int .i64 b0,.int .i64 b1,.int .i64 b2,.int .i64 b3,.int .i64 b4,.int .i64 b5,.int .i64 b6,.int .i64 b7,.int .i64 xh,.int .i64 xl]
  have hfin:rq=ra:=by
    rw [qa]
    refine List.ext_getElem? fun j=>?_
    by_cases hj:k=j
    · subst hj
      rw [List.getElem?_set_self (by omega),List.getElem?_eq_getElem (by omega)]
      rw [List.getD_eq_getElem?_getD,List.getElem?_eq_getElem (by omega)] at gx
      exact congrArg some gx
    · rw [List.getElem?_set_ne hj]
  subst hfin
  clear hst_ h_rp h_rg h_rq h_rm h_rl h_r0 h_r1 h_r2 h_r3 h_rt h_rq' l_rp l_rg l_rm l_rl l_r0 l_r1 l_r2 l_r3 l_rt qa hx
  refine callsV_l hD Try.func74 ok74 rfl rfl (by simp only [List.map_cons,List.map_nil,V.sh,V.shL,stL,stN,stK,stH,s_rp,s_rg,s_rq,s_rm,s_rl,s_r0,s_r1,s_r2,s_r3,s_rt]) fun P L Q hP hL hQ=>?_
  rw [← hP] at ch cn
  have lq:L rq=rq.length:=hL rq
  repeat' (cbv; first|refine .y ?_|refine .n ?_|refine .s (fun hc=>?_) fun hc=>?_|refine .x ?_|refine .r ?_|refine .e fun v hv=>?_|refine .a fun v hv=>?_|refine .d ?_|refine .u fun vr vn hvr hvn hvl=>?_|fail)
  all_goals (try cbv)
  all_goals first
    | (refine hQ _ ⟨?_,?_,?_,?_,?_⟩ <;> (try cbv) <;> (repeat' first|exact True.intro|exact rfl|assumption|exact FrR.mk rfl|exact FrS.mk rfl|(rw [hL]; rfl)|refine ⟨?_,?_⟩|fail))
    | (exfalso; omega)
structure StI where
  i:Int
  y:RD
  rs:List (List V)
theorem atR_nil {r:RD} (h:mayR r=true) (he:listR r=[]):r=atR r.h []:=by
  have:=mayR_at h; rwa [he] at this
theorem at_ok {h:Int} {l:List Int} (h0:0≤h) (h1:h < 8) (hl:l.length≤8) (hp:∀ x∈l,1≤x):mayR (atR h l)=true∧listR (atR h l)=l:=mayR_of (atR_is h0 h1 hl hp)
set_option maxHeartbeats 4000000 in
theorem c74s (s:SD) (p v:Int) (p1:1≤p) (p2:p.toNat≤s.ps.length) (v1:1≤v) (v2:v≤s.pr) (hne:v≠p) (v3:v.toNat≤s.ps.length) (hl:s.ps.length≤1000000) (hr:mayR (getP s v).r=true) (hrp:mayR (getP s p).r=true)
    (hep:listR (getP s p).r=[]) (g:Int) (l:List Int) (he:listR (getP s v).r=g::l) :
    CallsV Try.prog 74 [.io (stQ s),.int .i64 p,.int .i64 v] (.int .i64 (stealF s p v).2) [.io (stQ (stealF s p v).1),.undef,.undef] true:=by
  have hx:=getP_of (s:=s) (p:=v) (by omega)
  have hy:=getP_of (s:=s) (p:=p) (by omega)
  have ch:=r_Half hr
  have hpos:=listR_pos hr
  have hlen:=listR_len (getP s v).r
  have hyat:=atR_nil hrp hep
  obtain ⟨yh0,yh1⟩:=mayR_h hrp
  obtain ⟨h,hh⟩ : ∃ h,h=(g::l).take (halfN (g::l)):=⟨_,rfl⟩
  have hkn:halfK (g::l)=halfN (g::l):=rfl
  have hcons:∃ t,h=g::t:=by
    rw [hh,show halfN (g::l)=(halfN (g::l) - 1)+1 by unfold halfN; simp; omega,List.take_succ_cons]
    exact ⟨_,rfl⟩
  obtain ⟨t,ht⟩:=hcons
  have ht4:t.length≤4:=by
    have:=congrArg List.length hh
    rw [he] at hlen
    rw [ht] at this
    simp at this hlen; unfold halfN at this; simp at this; omega
  have htp:∀ z∈t,1≤z:=fun z hz=>hpos z (by
    rw [he]
    have:z∈h:=by rw [ht]; simp [hz]
    rw [hh] at this; exact List.mem_of_mem_take this)
  have hs:stealF s p v=(setP (setP s v { getP s v with r:=atR (((getP s v).r.h+halfN (g::l)) % 8) ((g::l).drop (halfN (g::l))) }) p { getP s p with r:=atR (getP s p).r.h t },g):=by
    unfold stealF
    rw [if_neg (by omega),he,hep]
    dsimp only
    rw [← hh,ht]; rfl
  rw [hs]
  rw [he,hkn,← hh] at ch
  obtain ⟨rv,hrv⟩ : ∃ r,r=atR (((getP s v).r.h+halfN (g::l)) % 8) ((g::l).drop (halfN (g::l))):=⟨_,rfl⟩
  rw [← hrv] at ch ⊢
  clear hrv hs hh hpos hlen hkn he hep hr hrp
  unfold setP
  dsimp only
  obtain ⟨x,hxe⟩ : ∃ x,x=getP s v:=⟨_,rfl⟩
  rw [← hxe] at hx ch ⊢
  clear hxe
  obtain ⟨y,hye⟩ : ∃ x,x=getP s p:=⟨_,rfl⟩
  rw [← hye] at hy hyat yh0 yh1 ⊢
  clear hye
  obtain ⟨xm,xn,⟨b0,b1,b2,b3,b4,b5,b6,b7,xh,xl⟩,xs⟩:=x
  obtain ⟨d0,d1,d2,d3,d4,d5,d6,d7,dh,dl⟩:=rv
  obtain ⟨ym,yn,yr,ys⟩:=y
  obtain ⟨prog,gs,ps,ms,gl,c0,c1,c2,c3,w0,w1,w2,w3,ts,ck,pr⟩:=s
  obtain ⟨rp,rg,rq,rm,rl,r0,r1,r2,r3,rt,⟨h_rp,s_rp,l_rp⟩,⟨h_rg,s_rg,l_rg⟩,⟨h_rq,s_rq,l_rq⟩,⟨h_rm,s_rm,l_rm⟩,⟨h_rl,s_rl,l_rl⟩,⟨h_r0,s_r0,l_r0⟩,⟨h_r1,s_r1,l_r1⟩,⟨h_r2,s_r2,l_r2⟩,⟨h_r3,s_r3,l_r3⟩,⟨h_rt,s_rt,l_rt⟩,hst_⟩:=stR prog gs ps ms gl c0 c1 c2 c3 w0 w1 w2 w3 ts ck pr
  dsimp only at p2 v2 v3 hl hx hy ch hyat yh0 yh1 ⊢
  rw [stQ_mk,stQ_mk,← h_rp,← h_rg,← h_rq,← h_rm,← h_rl,← h_r0,← h_r1,← h_r2,← h_r3,← h_rt]
  obtain ⟨rq',h_rq'⟩ : ∃ r,r=((ps.set (v.toNat - 1) ⟨xm,xn,⟨d0,d1,d2,d3,d4,d5,d6,d7,dh,dl⟩,xs⟩).set (p.toNat - 1) ⟨ym,yn,atR yr.h t,ys⟩).map pC:=⟨_,rfl⟩
  rw [← h_rq']
  obtain ⟨rh,h_rh⟩ : ∃ r,r=h.map iC:=⟨_,rfl⟩
  have s_rh:V.shR rh=rh:=by rw [h_rh]; exact shR_iC h
  have l_rh:rh.length=h.length:=by simp [h_rh]
  rw [← h_rh] at ch
  have g0:rh.getD (0:Int).toNat []=[.int .i64 g]:=by rw [h_rh,ht]; rfl
  obtain ⟨rt',h_rt'⟩ : ∃ r,r=t.map iC:=⟨_,rfl⟩
  have s_rt':V.shR rt'=rt':=by rw [h_rt']; exact shR_iC t
  have l_rt':rt'.length=t.length:=by simp [h_rt']
  have hdr:rh.drop (1:Int).toNat=rt':=by rw [h_rh,h_rt',ht]; rfl
  have lh:rh.length=t.length+1:=by rw [l_rh,ht]; rfl
  obtain ⟨i,hi⟩ : ∃ i:Int,i=v - 1:=⟨_,rfl⟩
  obtain ⟨k,hk⟩ : ∃ k:Nat,0+i.toNat=k:=⟨_,rfl⟩
  have gx:rq.getD k []=pC ⟨xm,xn,⟨b0,b1,b2,b3,b4,b5,b6,b7,xh,xl⟩,xs⟩:=getD_rows (x:=(⟨xm,xn,⟨b0,b1,b2,b3,b4,b5,b6,b7,xh,xl⟩,xs⟩ : PD)) h_rq (by rw [show k=v.toNat - 1 by omega]; exact hx)
  obtain ⟨ra,ea,ga,la,qa⟩:=upd_row (show k < rq.length by omega) gx 2 [.int .i64 d0,.int .i64 d1,.int .i64 d2,.int .i64 d3,.int .i64 d4,.int .i64 d5,.int .i64 d6,.int .i64 d7,.int .i64 dh,.int .i64 dl]
  obtain ⟨psv,hpsv⟩ : ∃ q,q=ps.set (v.toNat - 1) ⟨xm,xn,⟨d0,d1,d2,d3,d4,d5,d6,d7,dh,dl⟩,xs⟩:=⟨_,rfl⟩
  have hra:ra=psv.map pC:=by
    rw [hpsv,map_set,← h_rq,qa,show v.toNat - 1=k by omega]; rfl
  rw [← hpsv] at h_rq'
  have hyv:psv[p.toNat - 1]?=some ⟨ym,yn,yr,ys⟩:=by
    rw [hpsv,List.getElem?_set_ne (by omega)]; exact hy
  have lpsv:psv.length=ps.length:=by rw [hpsv]; simp
  clear hst_ h_rp h_rg h_rq h_rm h_rl h_r0 h_r1 h_r2 h_r3 h_rt l_rp l_rg l_rm l_rl l_r0 l_r1 l_r2 l_r3 l_rt qa hx hy hpsv h_rh l_rh ht ga
  obtain ⟨i',hi'⟩ : ∃ i:Int,i=p - 1:=⟨_,rfl⟩
  obtain ⟨k',hk'⟩ : ∃ k:Nat,0+i'.toNat=k:=⟨_,rfl⟩
  have h01:(0:Int)≤1∧(1:Int)≤(rh.length:Int):=by omega
  refine callsV_l hD Try.func74 ok74 rfl rfl (by simp only [List.map_cons,List.map_nil,V.sh,V.shL,stL,stN,stK,stH,s_rp,s_rg,s_rq,s_rm,s_rl,s_r0,s_r1,s_r2,s_r3,s_rt,s_rh]) fun P L Q hP hL hQ=>?_
  rw [← hP] at ch
  have lq:L rq=rq.length:=hL rq
  obtain ⟨mh,hmh⟩ : ∃ n:Int,0≤n∧n.toNat=rh.length:=⟨rh.length,by omega,by omega⟩
  obtain ⟨m,hm⟩ : ∃ n:Int,0≤n∧n.toNat=rt'.length:=⟨rt'.length,by omega,by omega⟩
  repeat' (cbv; first|refine .y ?_|refine .n ?_|refine .s (fun hc=>?_) fun hc=>?_|refine Lt.to h01 hdr ?_|refine .x ?_|refine .r ?_|refine .e fun v hv=>?_|refine .a fun v hv=>?_|refine .d ?_|refine .u fun vr vn hvr hvn hvl=>?_|fail)
  all_goals (try cbv)
  refine LoopQ.to (ι:=StI) (fun q=>⟨tab .undef [(0,.ptr 100 0),(1,.int .i64 p),(9,.sl true 1 rh),(53,.sl true 1 rt'),(54,.int .i64 m),(55,.int .i64 q.i)],tab .dead [(100,.box [.sref 101 0 (L rp),.sref 102 0 (L rg),.sref 103 0 (L rq),.sref 104 0 (L rm),.sl false 1 rl,.int .i64 c0,.int .i64 c1,.int .i64 c2,.int .i64 c3,.sl false 1 r0,.sl false 1 r1,.sl false 1 r2,.sl false 1 r3,.sl false 2 rt,.int .i64 ck,.int .i64 pr]),(101,.rows 1 rp),(102,.rows 5 rg),(103,.rows 13 q.rs),(104,.rows 2 rm)]⟩)
    (fun q=>0≤q.i∧q.i.toNat≤t.length∧q.y=atR yr.h (t.take q.i.toNat)∧q.rs=(psv.set (p.toNat - 1) ⟨ym,yn,q.y,ys⟩).map pC) (fun q=>t.length - q.i.toNat) ⟨0,yr,ra⟩ ⟨by simp,by simp,hyat,?_⟩ rfl fun ⟨j,y,rs⟩ ⟨j0,j1,hy',hrs⟩ A hA=>?_
  · dsimp only
    have:=setP_self (s:=⟨prog,gs,psv,ms,gl,c0,c1,c2,c3,w0,w1,w2,w3,ts,ck,pr⟩) hyv
    unfold setP at this
    rw [hra]
    exact congrArg (fun q:SD=>q.ps.map pC) this.symm
  · dsimp only at j0 j1 hy' hrs ⊢
    have lrs:rs.length=rq.length:=by rw [hrs]; simp; omega
    clear ch hdr hra ea
    rcases drop_cases j1 with ⟨e,_⟩|⟨hlt,z,_,hz⟩
    · rw [e,List.take_length] at hy'
      rw [hy',← h_rq'] at hrs
      subst hrs
      have lE:L rq=L rs:=by rw [hL,hL]; omega
      repeat' (cbv; first|refine .y ?_|refine .n ?_|refine .s (fun hc=>?_) fun hc=>?_|refine .x ?_|refine .r ?_|refine .e fun v hv=>?_|refine .a fun v hv=>?_|refine .d ?_|refine .u fun vr vn hvr hvn hvl=>?_|fail)
      all_goals (try cbv)
      (refine hQ _ ⟨?_,?_,?_,?_,?_⟩ <;> (try cbv) <;> (repeat' first|exact True.intro|exact rfl|assumption|exact FrR.mk rfl|exact FrS.mk rfl|(rw [hL]; rfl)|refine ⟨?_,?_⟩|fail))
    · have gz:rt'.getD j.toNat []=[.int .i64 z]:=getD_rows h_rt' hz
      have z1:=htp z (mem_of_get hz)
      have hlt8:(t.take j.toNat).length < 8:=by simp; omega
      obtain ⟨q1,q2⟩:=at_ok yh0 yh1 (l:=t.take j.toNat) (by omega) fun x hx=>htp x (List.mem_of_mem_take hx)
      rw [← hy'] at q1 q2
      have cp:=r_Push q1 (by rw [q2]; exact hlt8) z1
      have hyh:y.h=yr.h:=by rw [hy']; rfl
      rw [q2,hyh,← take_succ_of hz] at cp
      obtain ⟨y2,hy2⟩ : ∃ y2,y2=atR yr.h (t.take (j.toNat+1)):=⟨_,rfl⟩
      rw [← hy2] at cp
      have gy:rs.getD k' []=pC ⟨ym,yn,y,ys⟩:=getD_rows (x:=(⟨ym,yn,y,ys⟩ : PD)) hrs (by rw [show k'=p.toNat - 1 by omega]; exact List.getElem?_set_self (by omega))
      obtain ⟨rs2,e2,g2,l2,qa2⟩:=upd_row (show k' < rs.length by omega) gy 2 [.int .i64 y2.b0,.int .i64 y2.b1,.int .i64 y2.b2,.int .i64 y2.b3,.int .i64 y2.b4,.int .i64 y2.b5,.int .i64 y2.b6,.int .i64 y2.b7,.int .i64 y2.h,.int .i64 y2.n]
      have hrs2:rs2=(psv.set (p.toNat - 1) ⟨ym,yn,y2,ys⟩).map pC:=by
        rw [qa2,hrs,map_set,map_set,show p.toNat - 1=k' by omega,List.set_set]; rfl
      rw [← hP] at cp
      clear h_rq' hyv q1 q2 hrs qa2
      repeat' (cbv; first|refine .y ?_|refine .n ?_|refine .s (fun hc=>?_) fun hc=>?_|refine .x ?_|refine .r ?_|refine .e fun v hv=>?_|refine .a fun v hv=>?_|refine .d ?_|refine .u fun vr vn hvr hvn hvl=>?_|fail)
      all_goals (try cbv)
      exact hA ⟨v,y2,rs2⟩ _ ⟨by dsimp only; omega,by dsimp only; omega,by dsimp only; rw [hy2,show v.toNat=j.toNat+1 by omega],hrs2⟩ (by dsimp only; omega) (by cbv)
end Go.Ab

namespace Go.Proofs
open Go.RowKit Go.Shelf Go.Ab Go.MapKept
attribute [local go_sem] Oper.semAt_some
theorem t_map:Try.prog.underlying 98=some (.map 3 100):=by kernel_rfl
theorem t_int:Try.prog.underlying 3=some (.int .i64):=by kernel_rfl
theorem t_sl:Try.prog.underlying 100=some (.slice 45):=by kernel_rfl
theorem t_zero:(Try.prog.info? 100).map (·.zero)=some (some (.slice none 0 0)):=by kernel_rfl
theorem zero_sl (w:World):(zeroValue 100).run Try.prog w=.ok (.slice none 0 0) w:=by
  have h:=t_zero
  cases hi:Try.prog.info? 100 with
  | none=>rw [hi] at h; cases h
  | some i =>
    rw [hi] at h
    simp only [Option.map_some,Option.some.injEq] at h
    simp [zeroValue,typeInfo,hi,h,Result.andThen]
theorem findNow_none {g:Int}:∀ (l:List MapEntry) (i:Nat),(∀ e∈l,∃ m,e.key=.int .i64 m)→(∀ e∈l,e.key≠.int .i64 g)→Instr.findNow (.int .i64) (.int .i64 g) l i=some none:=fun l i h1 h2=>by
  have hik:IsKey (.int .i64) (.int .i64 g):=by exact (rfl:IntKind.i64=IntKind.i64)
  rcases find_first hik l i (fun x hx=>by obtain ⟨m,e⟩:=h1 x hx; rw [e]; exact (rfl:IntKind.i64=IntKind.i64)) with ⟨f1,f2⟩|⟨q,en,f1,f2,f3,f4⟩
  · exact f1
  · exact absurd f3 (h2 en (List.mem_of_getElem? f2))
theorem zc_size (n:Nat):(Builtin.zeroCells #[Value.int IntKind.i64 0,Value.int IntKind.i64 0] n).size=n * 2:=by
  rw [size_zeroCells]; rfl
set_option maxRecDepth 100000 in
set_option maxHeartbeats 1000000 in
theorem put_new (w:World) (b clock:Nat) (ents:Array MapEntry) (g k n:Int) (hb:w.heap[b]?=some (.map ents clock)) (hk:∀ e∈ents.toList,∃ m,e.key=.int .i64 m) (hn:∀ e∈ents.toList,e.key≠.int .i64 g) :
    Calls Try.prog 109 #[.map (some b),.int .i64 g,.int .i64 k,.int .i64 n] w fun e w'=>(∃ v,e=.returned v)∧∃ (c cap:Nat) (cur:Array Value) (t:TypeId),
        w.heap.size≤c∧c≠b∧1≤cap∧cap≤maxLen∧w'.heap[c]?=some (.cells cur t (0,0))∧cur.size=cap * 2∧cur[0]?=some (.int .i64 k)∧cur[1]?=some (.int .i64 n) ∧
        w'.heap[b]?=some (.map (ents.push { key:=.int .i64 g,val:=.slice (some ⟨c,0,none⟩) 1 cap,born:=clock }) (clock+1)) ∧
        w'.os=w.os∧w'.output=w.output∧w'.tape=w.tape∧w.heap.size≤w'.heap.size∧∀ i,i < w.heap.size→i≠b→w'.heap[i]?=w.heap[i]?:=by
  have hbs:b < w.heap.size:=(Array.getElem?_eq_some_iff.1 hb).1
  rw [← callsIn_wide (n:=3)]
  refine callsIn_of_wp Try.func109 rfl trivial ?_ rfl
  simp only [Try.ntmps109,List.size_toArray,List.length_cons,List.length_nil,Nat.reduceAdd,Nat.reduceSub,Array.replicate_succ,Array.replicate_zero,List.push_toArray,List.append_toArray,List.nil_append,List.cons_append]
  gi_wp2
  have hik:IsKey (.int .i64) (.int .i64 g):=by exact (rfl:IntKind.i64=IntKind.i64)
  have hlook:(Instr.lookup 98 (.map (some b)) (.int .i64 g) false).run Try.prog w=.ok (.slice none 0 0) w:=by
    simp [Instr.lookup,run_underlying t_map,MapKept.run_getObj_map hb,MapKept.run_checkKey t_int hik,MapKept.run_findKey t_int (findNow_none ents.toList 0 hk hn),zero_sl,Result.andThen]
  rw [hlook]
  simp only [Result.andThen]
  gi_wp2
  have hc1:1≤grownCap w 1 0 45:=grownCap_ge w 1 0 45
  have hc2:grownCap w 1 0 45≤maxLen:=grownCap_le_maxLen w 1 0 45 (by simp [maxLen])
  have hcd:(Question.appendCap 1 0 45).cut (w.tape w.drawn (Question.appendCap 1 0 45))=grownCap w 1 0 45:=rfl
  rw [hcd]
  generalize grownCap w 1 0 45=cap at hc1 hc2
  clear hcd
  obtain ⟨cur,hcur⟩ : ∃ cur,cur=#[Value.int IntKind.i64 k,Value.int IntKind.i64 n] ++ Builtin.zeroCells #[Value.int IntKind.i64 0,Value.int IntKind.i64 0] (cap - 1):=⟨_,rfl⟩
  rw [← hcur]
  have hsz:cur.size=cap * 2:=by rw [hcur,Array.size_append,zc_size]; simp; omega
  have hx0:cur[0]?=some (.int .i64 k):=by rw [hcur]; simp [Array.getElem?_append]
  have hx1:cur[1]?=some (.int .i64 n):=by rw [hcur]; simp [Array.getElem?_append]
  clear hcur
  obtain ⟨w1,hw1⟩ : ∃ w1,w1=((w.alloc (Obj.cells #[Value.int IntKind.i64 k,Value.int IntKind.i64 n] 45)).alloc (Obj.cells cur 45)).drew:=⟨_,rfl⟩
  rw [← hw1]
  have g0:w1.heap=(w.heap.push (Obj.cells #[Value.int IntKind.i64 k,Value.int IntKind.i64 n] 45)).push (Obj.cells cur 45):=by rw [hw1]; rfl
  have g1:w1.heap[b]?=some (.map ents clock):=by
    rw [g0,Array.getElem?_push_lt (by simp; omega),Array.getElem_push_lt hbs]
    rw [Array.getElem?_eq_getElem hbs] at hb; exact hb
  have g2:w1.heap[w.heap.size+1]?=some (.cells cur 45 (0,0)):=by
    rw [g0,show w.heap.size+1=(w.heap.push (Obj.cells #[Value.int IntKind.i64 k,Value.int IntKind.i64 n] 45)).size by simp]
    exact Array.getElem?_push_size
  have hupd:(Instr.mapUpdate 98 (.map (some b)) (.int .i64 g) (.slice (some ⟨w.heap.size+1,0,none⟩) 1 cap)).run Try.prog w1=.ok () { w1 with heap:=w1.heap.setIfInBounds b (.map (ents.push { key:=.int .i64 g,val:=.slice (some ⟨w.heap.size+1,0,none⟩) 1 cap,born:=clock }) (clock+1)) }:=by
    simp [Instr.mapUpdate,run_underlying t_map,MapKept.run_getObj_map g1,MapKept.run_checkKey t_int hik,MapKept.run_findKey t_int (findNow_none ents.toList 0 hk hn),MapKept.run_setObj_map _ g1,Result.andThen]
  rw [hupd]
  simp only [Result.andThen]
  gi_wp2
  first
    | go_ret
    | go_end0
  have hset:=MapKept.heap_set (o':=.map (ents.push { key:=.int .i64 g,val:=.slice (some ⟨w.heap.size+1,0,none⟩) 1 cap,born:=clock }) (clock+1)) g1
  have hold:∀ i,i < w.heap.size→w1.heap[i]?=w.heap[i]?:=fun i hi=>by
    rw [g0,Array.getElem?_push_lt (by simp; omega),Array.getElem_push_lt hi,Array.getElem?_eq_getElem hi]
  subst hw1
  refine ⟨⟨_,rfl⟩,w.heap.size+1,cap,cur,45,by omega,by omega,hc1,hc2,(hset.2 _ (by omega)).trans g2,hsz,hx0,hx1,hset.1,rfl,rfl,rfl,?_,fun i hi hne=>(hset.2 i hne).trans (hold i hi)⟩
  show w.heap.size≤(Array.setIfInBounds _ _ _).size
  rw [Array.size_setIfInBounds,g0]; simp; omega
theorem findNow_some {g:Int} {ents:Array MapEntry} {i:Nat} {e:MapEntry} (h1:∀ e∈ents.toList,∃ m,e.key=.int .i64 m) (he:ents[i]?=some e) (hk:e.key=.int .i64 g) (hf:∀ j e',j < i→ents[j]?=some e'→e'.key≠.int .i64 g) :
    Instr.findNow (.int .i64) (.int .i64 g) ents.toList 0=some (some (i,e.val)):=by
  have hik:IsKey (.int .i64) (.int .i64 g):=(rfl:IntKind.i64=IntKind.i64)
  rcases find_first hik ents.toList 0 (fun x hx=>by obtain ⟨m,e⟩:=h1 x hx; rw [e]; exact (rfl:IntKind.i64=IntKind.i64)) with ⟨f1,f2⟩|⟨q,en,f1,f2,f3,f4⟩
  · exact absurd hk (f2 e (List.mem_of_getElem? (by simpa using he)))
  · have hq:ents[q]?=some en:=by simpa using f2
    have:q=i:=by
      rcases Nat.lt_trichotomy q i with hlt|heq|hlt
      · exact absurd f3 (hf q en hlt hq)
      · exact heq
      · exact absurd hk (f4 i e hlt (by simpa using he))
    subst this
    rw [he] at hq; cases hq
    simpa using f1
end Go.Proofs

namespace Go.Proofs
open Go.RowKit Go.Shelf Go.Ab Go.MapKept
attribute [local go_sem] Oper.semAt_some
theorem wpListIn_app {F:Fence} {n:Nat} {P:Program} {w:World} {ops:Array Oper} {rest:List Oper} {o:Oper} {a:Act} {Q:Exit→Act→World→Prop}
    (hg:o.guard=none) (s x:Operand) (t:TypeId) (hop:o.op=Op.call { callee:=Callee.builtin Builtin.append,args:=#[s,x],argTypes:=#[t,t] })
    (v':Value) (w':World) (hrun:(Builtin.append_ #[t,t] o.type #[a.eval s,a.eval x]).run P w=.ok v' w')
    (hK:wpListIn F n P ops Q rest (a.put o.dst v') w') :
    wpListIn F n P ops Q (o::rest) a w:=by
  refine wpListIn_plain hg fun K hK'=>?_
  unfold Oper.wpIn
  refine ⟨?_,?_⟩
  · simp [Oper.about,hop,resolve,Target.leads,Sem.run_pure]
  · rw [Oper.semAt_plain F _ _ (by rw [hop]; intro c hc'; cases hc')]
    simp [execOp,hop,resolve,invoke,builtin,hrun,Result.andThen]
    exact hK' _ _ hK
theorem append_room {P:Program} (w:World) (t ty e t':TypeId) (i:TypeInfo) (ht:P.underlying t=some (.slice e)) (hi:P.info? e=some i)
    (g sLen sCap:Nat) (cur:Array Value) (hg:w.heap[g]?=some (.cells cur t' (0,0)))
    (a:Addr) (m c:Nat) (news:List Value) (hl:news.length=m * i.size) (hnews:∀ j u,news[j]?=some u→w.cell? (a.add j)=some u) (h1:∀ u∈news,u.oneCell'=true)
    (hroom:sLen+m≤sCap) (hfit:sLen * i.size+news.length≤cur.size) :
    (Builtin.append_ #[t,t] ty #[.slice (some ⟨g,0,none⟩) sLen sCap,.slice (some a) m c]).run P w =
      .ok (.slice (some ⟨g,0,none⟩) (sLen+m) sCap) (w.setRow g (cur.toList.take (sLen * i.size) ++ news ++ cur.toList.drop (sLen * i.size+news.length)).toArray):=by
  have hf:=run_firstCells_some (P:=P) w i.size m a m c news hl hnews
  have hst:=run_storeCells_at P g (sLen * i.size) t' news 0 cur w hg (by simpa using hfit) h1
  simp only [Nat.add_zero] at hst
  simp [Builtin.append_,run_underlying ht,sizeOf,typeInfo,hi,Builtin.lenOf,hroom,hf,Addr.add_lit,hst]
theorem t_place:∃ i,Try.prog.info? 45=some i∧i.zero=some (.agg #[.int .i64 0,.int .i64 0])∧i.size=2∧i.bytes=16:=by
  have h:(Try.prog.info? 45).map (fun i=>(i.zero,i.size,i.bytes))=some (some (.agg #[.int .i64 0,.int .i64 0]),2,16):=by kernel_rfl
  cases hi:Try.prog.info? 45 with
  | none=>rw [hi] at h; cases h
  | some i =>
    rw [hi] at h
    simp only [Option.map_some,Option.some.injEq,Prod.mk.injEq] at h
    exact ⟨i,rfl,h.1,h.2.1,h.2.2⟩
theorem cell_two_new' (w:World) (x y:Value) (t:TypeId):∀ j u,[x,y][j]?=some u→(w.alloc (.cells #[x,y] t)).cell? ((⟨w.heap.size,0,none⟩ : Addr).add j)=some u:=by
  intro j u hj
  match j,hj with
  | 0,hj=>simp at hj; subst hj; simp [Addr.add]
  | 1,hj=>simp at hj; subst hj; simp [Addr.add]
theorem put_app (w1:World) (ty:TypeId) (x y:Value) (hx1:x.oneCell'=true) (hy1:y.oneCell'=true) (c m cap:Nat) (cur:Array Value) (t:TypeId) (a:Addr)
    (hnews:∀ j u,[x,y][j]?=some u→w1.cell? (a.add j)=some u)
    (hmc:m≤cap) (hcm:cap≤maxLen) (hby:(m+1) * 16≤140737488355328) (hc:w1.heap[c]?=some (.cells cur t (0,0))) (hcs:cur.size=cap * 2) :
    ∃ (c' cap':Nat) (w2:World) (cur':Array Value) (t':TypeId),
      (Builtin.append_ #[100,100] ty #[.slice (some ⟨c,0,none⟩) m cap,.slice (some a) 1 1]).run Try.prog w1=.ok (.slice (some ⟨c',0,none⟩) (m+1) cap') w2 ∧
      ((c'=c∧cap'=cap∧m < cap∧t'=t)∨(w1.heap.size≤c'∧w2.heap[c]?=w1.heap[c]?))∧m+1≤cap'∧cap'≤maxLen∧w2.heap[c']?=some (.cells cur' t' (0,0))∧cur'.size=cap' * 2 ∧
      (∀ j,j < m * 2→cur'[j]?=cur[j]?)∧cur'[m * 2]?=some x∧cur'[m * 2+1]?=some y ∧
      w2.os=w1.os∧w2.output=w1.output∧w2.tape=w1.tape∧w1.heap.size≤w2.heap.size∧∀ i,i < w1.heap.size→i≠c→w2.heap[i]?=w1.heap[i]?:=by
  obtain ⟨i,hi,hz,hs,hb⟩:=t_place
  have hcl:c < w1.heap.size:=(Array.getElem?_eq_some_iff.1 hc).1
  by_cases hr:m+1≤cap
  · have hrun:=append_room (P:=Try.prog) w1 100 ty 45 t i t_sl hi c m cap cur hc a 1 1 [x,y] (by simp [hs]) hnews (by simp [hx1,hy1]) hr (by rw [hs]; simp; omega)
    rw [hs] at hrun
    refine ⟨c,cap,_,_,t,hrun,.inl ⟨rfl,rfl,by omega,rfl⟩,hr,hcm,setRow_heap _ _ _ _ _ _ hc,?_,fun j hj=>?_,?_,?_,rfl,rfl,rfl,by simp,fun i _ hne=>setRow_other _ _ _ _ hne⟩
    · simp; omega
    · simp only [List.getElem?_toArray]
      rw [List.append_assoc,List.getElem?_append_left (by simp; omega),List.getElem?_take_of_lt hj]
      simp
    · simp only [List.getElem?_toArray]
      rw [List.append_assoc,List.getElem?_append_right (by simp; omega)]
      have:m * 2 - (List.take (m * 2) cur.toList).length=0:=by simp; omega
      rw [this]; rfl
    · simp only [List.getElem?_toArray]
      rw [List.append_assoc,List.getElem?_append_right (by simp; omega)]
      have:m * 2+1 - (List.take (m * 2) cur.toList).length=1:=by simp; omega
      rw [this]; rfl
  · have hmc':m=cap:=by omega
    subst hmc'
    have hold:∀ j v,cur.toList[j]?=some v→w1.cell? ((⟨c,0,none⟩ : Addr).add j)=some v:=fun j v hj=>by
      have hadd:(⟨c,0,none⟩ : Addr).add j=⟨c,j,none⟩:=by unfold Addr.add; split <;> simp_all
      rw [hadd,cell_of_row w1 c j cur t (0,0) hc]
      simpa using hj
    have hrun:=run_append_grow (P:=Try.prog) w1 100 ty 45 i _ t_sl hi hz ⟨c,0,none⟩ m m cur.toList (by simp [hs,hcs]) hold a 1 1 [x,y] (by simp [hs]) hnews (by omega) (by omega) (growslice_fits (by omega) (by rw [hb]; exact hby))
    have hge:=grownCap_ge w1 (m+1) m 45
    have hle:=grownCap_le_maxLen w1 (m+1) m 45 (by simp only [maxLen]; omega)
    refine ⟨w1.heap.size,_,_,_,45,hrun,.inr ⟨Nat.le_refl _,_root_.Go.heap_alloc_old w1.drew _ hcl⟩,hge,hle,heap_alloc_new w1.drew _,?_,fun j hj=>?_,?_,?_,rfl,rfl,rfl,by simp,fun i hi _=>_root_.Go.heap_alloc_old w1.drew _ hi⟩
    · simp only [Array.size_append,size_zeroCells,Value.cells]
      simp; omega
    · rw [Array.append_assoc,Array.getElem?_append_left (by simp; omega)]
    · rw [Array.append_assoc,Array.getElem?_append_right (by simp; omega)]
      have:m * 2 - cur.toList.toArray.size=0:=by simp; omega
      rw [this,Array.getElem?_append_left (by simp)]; rfl
    · rw [Array.append_assoc,Array.getElem?_append_right (by simp; omega)]
      have:m * 2+1 - cur.toList.toArray.size=1:=by simp; omega
      rw [this,Array.getElem?_append_left (by simp)]; rfl
set_option maxRecDepth 100000 in
set_option maxHeartbeats 1000000 in
theorem put_old (w:World) (b clock:Nat) (ents:Array MapEntry) (g k n:Int) (hb:w.heap[b]?=some (.map ents clock)) (hk:∀ e∈ents.toList,∃ m,e.key=.int .i64 m)
    (i c m cap:Nat) (e:MapEntry) (cur:Array Value) (t:TypeId) (he:ents[i]?=some e) (hek:e.key=.int .i64 g) (hf:∀ j e',j < i→ents[j]?=some e'→e'.key≠.int .i64 g)
    (hv:e.val=.slice (some ⟨c,0,none⟩) m cap) (hcb:c≠b) (hmc:m≤cap) (hcm:cap≤maxLen) (hby:(m+1) * 16≤140737488355328) (hc:w.heap[c]?=some (.cells cur t (0,0))) (hcs:cur.size=cap * 2) :
    Calls Try.prog 109 #[.map (some b),.int .i64 g,.int .i64 k,.int .i64 n] w fun e' w'=>(∃ v,e'=.returned v)∧∃ (c' cap':Nat) (cur':Array Value) (t':TypeId),
        ((c'=c∧cap'=cap∧m < cap∧t'=t)∨(w.heap.size≤c'∧w'.heap[c]?=w.heap[c]?))∧c'≠b∧m+1≤cap'∧cap'≤maxLen∧w'.heap[c']?=some (.cells cur' t' (0,0))∧cur'.size=cap' * 2 ∧
        (∀ j,j < m * 2→cur'[j]?=cur[j]?)∧cur'[m * 2]?=some (.int .i64 k)∧cur'[m * 2+1]?=some (.int .i64 n) ∧
        w'.heap[b]?=some (.map (ents.modify i fun e=>{ e with key:=.int .i64 g,val:=.slice (some ⟨c',0,none⟩) (m+1) cap' }) clock) ∧
        w'.os=w.os∧w'.output=w.output∧w'.tape=w.tape∧w.heap.size≤w'.heap.size∧∀ i,i < w.heap.size→i≠b→i≠c→w'.heap[i]?=w.heap[i]?:=by
  have hbs:b < w.heap.size:=(Array.getElem?_eq_some_iff.1 hb).1
  have hcs':c < w.heap.size:=(Array.getElem?_eq_some_iff.1 hc).1
  have hik:IsKey (.int .i64) (.int .i64 g):=(rfl:IntKind.i64=IntKind.i64)
  have hfn:=findNow_some hk he hek hf
  rw [hv] at hfn
  have hlook:(Instr.lookup 98 (.map (some b)) (.int .i64 g) false).run Try.prog w=.ok (.slice (some ⟨c,0,none⟩) m cap) w:=by
    simp [Instr.lookup,run_underlying t_map,MapKept.run_getObj_map hb,MapKept.run_checkKey t_int hik,MapKept.run_findKey t_int hfn,Result.andThen]
  have hc1:(w.alloc (Obj.cells #[Value.int IntKind.i64 k,Value.int IntKind.i64 n] 45)).heap[c]?=some (.cells cur t (0,0)):=(_root_.Go.heap_alloc_old w _ hcs').trans hc
  obtain ⟨c',cap',w2,cur',t',hrun,hor,hm1,hm2,hcc,hsz,hpre,hx0,hx1,ho1,ho2,ho3,hgs,hsame⟩:=put_app (w.alloc (Obj.cells #[Value.int IntKind.i64 k,Value.int IntKind.i64 n] 45)) 100 (.int .i64 k) (.int .i64 n) rfl rfl c m cap cur t ⟨w.heap.size,0,none⟩
    (cell_two_new' w _ _ _) hmc hcm hby hc1 hcs
  have hws:(w.alloc (Obj.cells #[Value.int IntKind.i64 k,Value.int IntKind.i64 n] 45)).heap.size=w.heap.size+1:=by simp
  have hb2:w2.heap[b]?=some (.map ents clock):=by
    rw [hsame b (by omega) (fun q=>hcb q.symm)]; exact (_root_.Go.heap_alloc_old w _ hbs).trans hb
  have hcb':c'≠b:=by
    rcases hor with ⟨h1,_⟩|⟨h1,_⟩
    · rw [h1]; exact hcb
    · omega
  have hupd:(Instr.mapUpdate 98 (.map (some b)) (.int .i64 g) (.slice (some ⟨c',0,none⟩) (m+1:Nat) cap')).run Try.prog w2=.ok () { w2 with heap:=w2.heap.setIfInBounds b (.map (ents.modify i fun e=>{ e with key:=.int .i64 g,val:=.slice (some ⟨c',0,none⟩) (m+1) cap' }) clock) }:=by
    simp [Instr.mapUpdate,run_underlying t_map,MapKept.run_getObj_map hb2,MapKept.run_checkKey t_int hik,MapKept.run_findKey t_int hfn,he,hek,run_keyThatStays hik,MapKept.run_setObj_map _ hb2,Result.andThen]
  rw [← callsIn_wide (n:=3)]
  refine callsIn_of_wp Try.func109 rfl trivial ?_ rfl
  simp only [Try.ntmps109,List.size_toArray,List.length_cons,List.length_nil,Nat.reduceAdd,Nat.reduceSub,Array.replicate_succ,Array.replicate_zero,List.push_toArray,List.append_toArray,List.nil_append,List.cons_append]
  gi_wp2_with (gi_at_builtin; refine wpListIn_app rfl _ _ _ rfl _ _ hrun ?_)
  first
    | go_ret
    | go_end0
  have hset:=MapKept.heap_set (o':=.map (ents.modify i fun e=>{ e with key:=.int .i64 g,val:=.slice (some ⟨c',0,none⟩) (m+1) cap' }) clock) hb2
  refine ⟨⟨_,rfl⟩,c',cap',cur',t',?_,hcb',hm1,hm2,(hset.2 _ hcb').trans hcc,hsz,hpre,hx0,hx1,hset.1,by first|exact ho1|rfl,by first|exact ho2|rfl,by first|exact ho3|rfl,?_,fun i hi hne hnc=>?_⟩
  · rcases hor with h|⟨h1,h2⟩
    · exact .inl h
    · refine .inr ⟨by omega,?_⟩
      exact (hset.2 c hcb).trans (h2.trans (_root_.Go.heap_alloc_old w _ hcs'))
  · show w.heap.size≤(Array.setIfInBounds _ _ _).size
    rw [Array.size_setIfInBounds]; omega
  · exact (hset.2 i hne).trans ((hsame i (by omega) hnc).trans (_root_.Go.heap_alloc_old w _ hi))
theorem put_callable:callable Try.prog 109=true:=by kernel_rfl
theorem c109:PutC Try.prog 109 :=
  ⟨put_callable,fun w b clock ents g k n hb hk=>⟨fun hn=>put_new w b clock ents g k n hb hk hn,fun i c m cap e cur t he hek hf hv hcb _ hmc hcm hby hc hcs _=>put_old w b clock ents g k n hb hk i c m cap e cur t he hek hf hv hcb hmc hcm hby hc hcs⟩⟩
end Go.Proofs
