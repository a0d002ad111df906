/-
  find: a G runs; next ones of a P, of its ring, of the global queue.
  ring: what each function does, of rings as data.
  find: sources: a P's next one, the first of its ring, of the global queue.
-/
import Derived.Test.YtkanpbjjabdalaaK16
import Derived.Test.YtkanpbjjabdalaaK19
import Derived.Test.YtkanpbjjabdalaaK22
import Derived.Test.YtkanpbjjabdalaaK23
set_option linter.all false
namespace Go.Ab
open Go Go.Proofs
set_option maxRecDepth 100000
set_option maxHeartbeats 2000000 in
theorem c75Q (s:SD) (p g:Int) (p1:1≤p) (p2:p.toNat≤s.ps.length) (m1:1≤(getP s p).m) (m2:(getP s p).m.toNat≤s.ms.length) (g1:1≤g) (g2:g.toNat≤s.gs.length)
    (hl:s.gs.length≤1000000∧s.ps.length≤1000000∧s.ms.length≤1000000) (hsq:-9000000000000000000≤(getG s g).sq∧(getG s g).sq≤9000000000000000000) :
    CallsV Try.prog 75 [.io (stQ s),.int .i64 p,.int .i64 g] (.tup []) [.io (stQ (runS s p g)),.undef,.undef] true:=by
  have hx:=getP_of (s:=s) (p:=p) (by omega)
  have ct:=c40Q s g 2 (getP s p).m g1 g2 hl.1 hsq
  have hy:=getM_of (s:=s) (p:=(getP s p).m) (by omega)
  obtain ⟨t,ht⟩ : ∃ t,t=turnS s g 2 (getP s p).m:=⟨_,rfl⟩
  have et:t={ s with gs:=t.gs }:=by rw [ht]; rfl
  unfold runS
  dsimp only
  rw [← ht] at ct ⊢
  clear hsq ht
  obtain ⟨gs',hgs'⟩ : ∃ l,l=t.gs:=⟨_,rfl⟩
  rw [← hgs'] at et
  subst et
  clear hgs'
  obtain ⟨x,hxe⟩ : ∃ x,x=getP s p:=⟨_,rfl⟩
  rw [← hxe] at hx ct m1 m2 hy ⊢
  obtain ⟨y,hye⟩ : ∃ y,y=getM s x.m:=⟨_,rfl⟩
  rw [← hye] at hy ⊢
  clear hxe hye
  obtain ⟨xm,xn,⟨b0,b1,b2,b3,b4,b5,b6,b7,xh,xl⟩,xs⟩:=x
  obtain ⟨y0,y1⟩:=y
  unfold setM
  obtain ⟨prog,gs,ps,ms,gl,c0,c1,c2,c3,w0,w1,w2,w3,ts,ck,pr⟩:=s
  obtain ⟨rp,rg,rq,rm,rl,r0,r1,r2,r3,rt,⟨h_rp,s_rp,l_rp⟩,⟨h_rg,s_rg,l_rg⟩,⟨h_rq,s_rq,l_rq⟩,⟨h_rm,s_rm,l_rm⟩,⟨h_rl,s_rl,l_rl⟩,⟨h_r0,s_r0,l_r0⟩,⟨h_r1,s_r1,l_r1⟩,⟨h_r2,s_r2,l_r2⟩,⟨h_r3,s_r3,l_r3⟩,⟨h_rt,s_rt,l_rt⟩,hst_⟩:=stR prog gs ps ms gl c0 c1 c2 c3 w0 w1 w2 w3 ts ck pr
  dsimp only at p2 m1 m2 g2 hl hx hy ct ⊢
  rw [stQ_mk,stQ_mk,← h_rp,← h_rg,← h_rq,← h_rm,← h_rl,← h_r0,← h_r1,← h_r2,← h_r3,← h_rt] at ct ⊢
  obtain ⟨rg',h_rg'⟩ : ∃ r,r=gs'.map gC:=⟨_,rfl⟩
  have s_rg':V.shR rg'=rg':=by rw [h_rg']; exact shR_gC gs'
  have l_rg':rg'.length=gs'.length:=by simp [h_rg']
  rw [← h_rg'] at ct ⊢
  obtain ⟨rm',h_rm'⟩ : ∃ r,r=(ms.set (xm.toNat - 1) ⟨y0,g⟩).map mC:=⟨_,rfl⟩
  rw [← h_rm']
  obtain ⟨i,hi⟩ : ∃ i:Int,i=p - 1:=⟨_,rfl⟩
  obtain ⟨k,hk⟩ : ∃ k:Nat,0+i.toNat=k:=⟨_,rfl⟩
  have gx:rq.getD k []=pC ⟨xm,xn,⟨b0,b1,b2,b3,b4,b5,b6,b7,xh,xl⟩,xs⟩:=getD_rows (x:=(⟨xm,xn,⟨b0,b1,b2,b3,b4,b5,b6,b7,xh,xl⟩,xs⟩ : PD)) h_rq (by rw [show k=p.toNat - 1 by omega]; exact hx)
  obtain ⟨j,hj⟩ : ∃ j:Int,j=xm - 1:=⟨_,rfl⟩
  obtain ⟨n,hn⟩ : ∃ n:Nat,0+j.toNat=n:=⟨_,rfl⟩
  have gy:rm.getD n []=mC ⟨y0,y1⟩:=getD_rows (x:=(⟨y0,y1⟩ : MD)) h_rm (by rw [show n=xm.toNat - 1 by omega]; exact hy)
  obtain ⟨ra,ea,ga,la,qa⟩:=upd_row (show n < rm.length by omega) gy 1 [.int .i64 g]
  have hfin:rm'=ra:=by
    rw [h_rm',map_set,← h_rm,qa,show xm.toNat - 1=n by omega]; rfl
  subst hfin
  clear hst_ h_rp h_rg h_rq h_rm h_rl h_r0 h_r1 h_r2 h_r3 h_rt h_rg' h_rm' l_rp l_rl l_r0 l_r1 l_r2 l_r3 l_rt qa hx hy
  refine callsV_l hD Try.func75 ok75 rfl rfl (by simp only [List.map_cons,List.map_nil,V.sh,V.shL,stL,stN,stK,stH,s_rp,s_rg,s_rq,s_rm,s_rl,s_r0,s_r1,s_r2,s_r3,s_rt]) fun P L Q hP hL hQ=>?_
  rw [← hP] at ct
  have lq:L rq=rq.length:=hL rq
  have lm:L rm=rm.length:=hL rm
  have lE:L rm=L rm':=by rw [hL,hL]; omega
  repeat' (cbv; first|refine .y ?_|refine .n ?_|refine .s (fun hc=>?_) fun hc=>?_|refine .x ?_|refine .r ?_|refine .e fun v hv=>?_|refine .a fun v hv=>?_|refine .d ?_|refine .u fun vr vn hvr hvn hvl=>?_|fail)
  all_goals (try cbv)
  (refine hQ _ ⟨?_,?_,?_,?_,?_⟩ <;> (try cbv) <;> (repeat' first|exact True.intro|exact rfl|assumption|exact FrR.mk rfl|exact FrS.mk rfl|(rw [hL]; rfl)|refine ⟨?_,?_⟩|fail))
set_option maxHeartbeats 2000000 in
theorem c75R (s:SD) (p g:Int) (p1:1≤p) (p2:p.toNat≤s.ps.length) (m1:1≤(getP s p).m) (m2:(getP s p).m.toNat≤s.ms.length) (g1:1≤g) (g2:g.toNat≤s.gs.length)
    (hl:s.gs.length≤1000000∧s.ps.length≤1000000∧s.ms.length≤1000000) (hsq:-9000000000000000000≤(getG s g).sq∧(getG s g).sq≤9000000000000000000) :
    CallsV Try.prog 75 [.io (stR_ s),.int .i64 p,.int .i64 g] (.tup []) [.io (stR_ (runS s p g)),.undef,.undef] true:=by
  have hx:=getP_of (s:=s) (p:=p) (by omega)
  have ct:=c40R s g 2 (getP s p).m g1 g2 hl.1 hsq
  have hy:=getM_of (s:=s) (p:=(getP s p).m) (by omega)
  obtain ⟨t,ht⟩ : ∃ t,t=turnS s g 2 (getP s p).m:=⟨_,rfl⟩
  have et:t={ s with gs:=t.gs }:=by rw [ht]; rfl
  unfold runS
  dsimp only
  rw [← ht] at ct ⊢
  clear hsq ht
  obtain ⟨gs',hgs'⟩ : ∃ l,l=t.gs:=⟨_,rfl⟩
  rw [← hgs'] at et
  subst et
  clear hgs'
  obtain ⟨x,hxe⟩ : ∃ x,x=getP s p:=⟨_,rfl⟩
  rw [← hxe] at hx ct m1 m2 hy ⊢
  obtain ⟨y,hye⟩ : ∃ y,y=getM s x.m:=⟨_,rfl⟩
  rw [← hye] at hy ⊢
  clear hxe hye
  obtain ⟨xm,xn,⟨b0,b1,b2,b3,b4,b5,b6,b7,xh,xl⟩,xs⟩:=x
  obtain ⟨y0,y1⟩:=y
  unfold setM
  obtain ⟨prog,gs,ps,ms,gl,c0,c1,c2,c3,w0,w1,w2,w3,ts,ck,pr⟩:=s
  obtain ⟨rp,rg,rq,rm,rl,r0,r1,r2,r3,rt,⟨h_rp,s_rp,l_rp⟩,⟨h_rg,s_rg,l_rg⟩,⟨h_rq,s_rq,l_rq⟩,⟨h_rm,s_rm,l_rm⟩,⟨h_rl,s_rl,l_rl⟩,⟨h_r0,s_r0,l_r0⟩,⟨h_r1,s_r1,l_r1⟩,⟨h_r2,s_r2,l_r2⟩,⟨h_r3,s_r3,l_r3⟩,⟨h_rt,s_rt,l_rt⟩,hst_⟩:=stR prog gs ps ms gl c0 c1 c2 c3 w0 w1 w2 w3 ts ck pr
  dsimp only at p2 m1 m2 g2 hl hx hy ct ⊢
  rw [stR_mk,stR_mk,← h_rp,← h_rg,← h_rq,← h_rm,← h_rl,← h_r0,← h_r1,← h_r2,← h_r3,← h_rt] at ct ⊢
  obtain ⟨rg',h_rg'⟩ : ∃ r,r=gs'.map gC:=⟨_,rfl⟩
  have s_rg':V.shR rg'=rg':=by rw [h_rg']; exact shR_gC gs'
  have l_rg':rg'.length=gs'.length:=by simp [h_rg']
  rw [← h_rg'] at ct ⊢
  obtain ⟨rm',h_rm'⟩ : ∃ r,r=(ms.set (xm.toNat - 1) ⟨y0,g⟩).map mC:=⟨_,rfl⟩
  rw [← h_rm']
  obtain ⟨i,hi⟩ : ∃ i:Int,i=p - 1:=⟨_,rfl⟩
  obtain ⟨k,hk⟩ : ∃ k:Nat,0+i.toNat=k:=⟨_,rfl⟩
  have gx:rq.getD k []=pC ⟨xm,xn,⟨b0,b1,b2,b3,b4,b5,b6,b7,xh,xl⟩,xs⟩:=getD_rows (x:=(⟨xm,xn,⟨b0,b1,b2,b3,b4,b5,b6,b7,xh,xl⟩,xs⟩ : PD)) h_rq (by rw [show k=p.toNat - 1 by omega]; exact hx)
  obtain ⟨j,hj⟩ : ∃ j:Int,j=xm - 1:=⟨_,rfl⟩
  obtain ⟨n,hn⟩ : ∃ n:Nat,0+j.toNat=n:=⟨_,rfl⟩
  have gy:rm.getD n []=mC ⟨y0,y1⟩:=getD_rows (x:=(⟨y0,y1⟩ : MD)) h_rm (by rw [show n=xm.toNat - 1 by omega]; exact hy)
  obtain ⟨ra,ea,ga,la,qa⟩:=upd_row (show n < rm.length by omega) gy 1 [.int .i64 g]
  have hfin:rm'=ra:=by
    rw [h_rm',map_set,← h_rm,qa,show xm.toNat - 1=n by omega]; rfl
  subst hfin
  clear hst_ h_rp h_rg h_rq h_rm h_rl h_r0 h_r1 h_r2 h_r3 h_rt h_rg' h_rm' l_rp l_rl l_r0 l_r1 l_r2 l_r3 l_rt qa hx hy
  refine callsV_l hD Try.func75 ok75 rfl rfl (by simp only [List.map_cons,List.map_nil,V.sh,V.shL,stL,stN,stK,stH,s_rp,s_rg,s_rq,s_rm,s_rl,s_r0,s_r1,s_r2,s_r3,s_rt]) fun P L Q hP hL hQ=>?_
  rw [← hP] at ct
  have lq:L rq=rq.length:=hL rq
  have lm:L rm=rm.length:=hL rm
  have lE:L rm=L rm':=by rw [hL,hL]; omega
  repeat' (cbv; first|refine .y ?_|refine .n ?_|refine .s (fun hc=>?_) fun hc=>?_|refine .x ?_|refine .r ?_|refine .e fun v hv=>?_|refine .a fun v hv=>?_|refine .d ?_|refine .u fun vr vn hvr hvn hvl=>?_|fail)
  all_goals (try cbv)
  (refine hQ _ ⟨?_,?_,?_,?_,?_⟩ <;> (try cbv) <;> (repeat' first|exact True.intro|exact rfl|assumption|exact FrR.mk rfl|exact FrS.mk rfl|(rw [hL]; rfl)|refine ⟨?_,?_⟩|fail))
end Go.Ab

namespace Go.Ab
open Go Go.Proofs
set_option maxRecDepth 100000
theorem ringC_at {s:Nat→Int} {h m:Int} {l:List Int} (r:RingIs s h m l):ringC s h m=rC (atR h l):=by
  have h1:RingIs (mkR s h m).f (mkR s h m).h (mkR s h m).n l:=r.of fun j hj=>mkR_f hj
  have h2:mkR s h m=atR h l:=ring_eq h1
  rw [← h2]; rfl
theorem r_Push {r:RD} (hr:mayR r=true) (hl:(listR r).length < 8) {g:Int} (hg:1≤g) :
    CallsV Try.prog 97 [.agg (rC r),.int .i64 g] (.tup [.agg (rC (atR r.h (listR r ++ [g]))),.bool true]) [.undef,.undef] true:=by
  obtain ⟨s',m',h1,h2⟩:=push_ok (listR_is hr) hl hg
  rw [ringC_at h1,← rC_ring] at h2
  exact h2
theorem r_Pop {r:RD} (hr:mayR r=true) {x:Int} {l:List Int} (hl:listR r=x::l) :
    CallsV Try.prog 102 [.agg (rC r)] (.tup [.agg (rC (atR ((r.h+1) % 8) l)),.int .i64 x,.bool true]) [.undef] true:=by
  have hi:=listR_is hr
  rw [hl] at hi
  obtain ⟨s',h',m',e,h1,h2⟩:=pop_ok hi
  rw [ringC_at h1,← rC_ring,e] at h2
  exact h2
theorem r_Pop0 {r:RD} (hr:mayR r=true) (hl:listR r=[]) :
    CallsV Try.prog 102 [.agg (rC r)] (.tup [.agg (rC r),.int .i64 0,.bool false]) [.undef] true:=by
  have hi:=listR_is hr
  rw [hl] at hi
  have h2:=pop_no hi
  rw [← rC_ring] at h2
  exact h2
def halfK (l:List Int):Nat:=l.length - l.length / 2
theorem r_Half {r:RD} (hr:mayR r=true) :
    CallsV Try.prog 98 [.agg (rC r)] (.tup [.agg (rC (atR ((r.h+halfK (listR r)) % 8) ((listR r).drop (halfK (listR r))))),.own 1 (((listR r).take (halfK (listR r))).map iC)]) [.undef] true:=by
  obtain ⟨s',h',m',e,h1,h2⟩:=half_ok (listR_is hr)
  have hn:=listR_n hr
  rw [ringC_at h1,← rC_ring,e,hn] at h2
  rw [show ((listR r).length:Int) - (listR r).length / 2=(halfK (listR r):Nat) by unfold halfK; omega] at h2
  exact h2
set_option maxHeartbeats 1000000 in
theorem r_List (r:RD):CallsV Try.prog 104 [.agg (rC r)] (.own 1 ((listR r).map iC)) [.undef] true:=by
  have cm:=r_May r _ rfl
  obtain ⟨b,hb⟩ : ∃ b,b=mayR r:=⟨_,rfl⟩
  rw [← hb] at cm
  cases b with
  | false =>
    have e:listR r=[]:=by simp [listR,← hb]
    rw [e]
    obtain ⟨b0,b1,b2,b3,b4,b5,b6,b7,hh,n⟩:=r
    refine callsV_q hD Try.func104 ok104 rfl rfl rfl fun P Q hP hQ=>?_
    try rw [← hP] at cm
    repeat' (cbv; first|refine .y ?_|refine .n ?_|refine .s (fun hc=>?_) fun hc=>?_|refine .gq cm ?_|refine .a fun v hv=>?_|refine .d ?_|refine .u fun vr vn hvr hvn hvl=>?_|fail)
    all_goals (try cbv)
    (refine hQ _ ?_; exact ⟨rfl,rfl,rfl,rfl,rfl⟩)
  | true =>
    have hm:=hb.symm
    have cl:=Go.Proofs.c110 r.f r.h r.n
    have hy:=Go.Proofs.all_yields r.f r.h r.n (listR r) (listR_is hm)
    have hl:=listR_len r
    rw [← rC_ring] at cl hy
    obtain ⟨xs,hxs⟩ : ∃ xs:List (List V),xs=(listR r).map fun x=>[.int .i64 x]:=⟨_,rfl⟩
    have hxl:xs.length≤8:=by rw [hxs]; simpa using hl
    have hxi:(listR r).map iC=xs:=hxs.symm
    have hin:∀ vs∈xs,∃ x:Int,vs=[.int .i64 x]:=fun vs h=>by
      rw [hxs] at h
      obtain ⟨x,_,rfl⟩:=List.mem_map.1 h
      exact ⟨x,rfl⟩
    have hfr:okRows true xs=true:=by rw [← hxi]; exact fr_iC _
    rw [← hxs] at hy
    rw [hxi]
    clear hxs hl hxi hm hb
    obtain ⟨b0,b1,b2,b3,b4,b5,b6,b7,hh,n⟩:=r
    refine callsV_q hD Try.func104 ok104 rfl rfl rfl fun P Q hP hQ=>?_
    try rw [← hP] at cm
    try rw [← hP] at cl
    repeat' (cbv; first|refine .y ?_|refine .n ?_|refine .s (fun hc=>?_) fun hc=>?_|refine CanQ.to (hP ▸ can_all1) ?_|refine .gq cm ?_|refine .gq cl ?_|refine .a fun v hv=>?_|refine .d ?_|refine .u fun vr vn hvr hvn hvl=>?_|fail)
    all_goals (try cbv)
    refine RngQ.to (ι:=QuI) (hP ▸ hy) (fun vs h=>by obtain ⟨x,rfl⟩:=hin vs h; exact ⟨rfl,rfl⟩)
      (fun p=>⟨tab .undef [(3,.ptr 101 0)],tab .dead [(101,.box [.sref 102 0 p.n]),(102,.rows 1 p.rs)]⟩)
      (fun pre p=>p.rs=pre∧p.n=p.rs.length) ⟨([]:List (List V)),0⟩ ⟨rfl,rfl⟩ rfl (fun pre vs p hvs hpre hlt hok A hA=>?_) (fun p hok=>?_)
    · obtain ⟨rs,n1⟩:=p
      obtain ⟨hrs,hn⟩:=hok
      dsimp only at hrs hn ⊢
      have lrs:rs.length≤10:=by rw [hrs]; omega
      obtain ⟨x,rfl⟩:=hin vs hvs
      repeat' (cbv; first|refine .y ?_|refine .n ?_|refine .s (fun hc=>?_) fun hc=>?_|refine .a fun v hv=>?_|refine .d ?_|refine .u fun vr vn hvr hvn hvl=>?_|fail)
      all_goals (try cbv)
      exact hA ⟨vr,vn⟩ _ ⟨by dsimp only; rw [hvr,hrs],hvn⟩ rfl
    · obtain ⟨rs,n1⟩:=p
      obtain ⟨hrs,hn⟩:=hok
      dsimp only at hrs hn ⊢
      repeat' (cbv; first|refine .y ?_|refine .n ?_|refine .s (fun hc=>?_) fun hc=>?_|refine .a fun v hv=>?_|refine .d ?_|refine .u fun vr vn hvr hvn hvl=>?_|fail)
      all_goals (try cbv)
      refine hQ _ ?_
      exact Leave.own rfl rfl hn hrs.symm (by rw [hrs,hfr]) rfl
end Go.Ab

namespace Go.Ab
open Go Go.Proofs
set_option maxRecDepth 100000
set_option maxHeartbeats 2000000 in
theorem c71 (s:SD) (p v:Int) (p1:1≤p) (p2:p.toNat≤s.ps.length) (hl:s.ps.length≤1000000) :
    CallsV Try.prog 71 [.io (stQ s),.int .i64 p,.int .i64 v] (.int .i64 (nextF s p).2) [.io (stQ (nextF s p).1),.undef,.undef] true:=by
  have hx:=getP_of (s:=s) (p:=p) (by omega)
  unfold nextF setP
  dsimp only
  obtain ⟨x,hxe⟩ : ∃ x,x=getP s p:=⟨_,rfl⟩
  rw [← hxe] at hx ⊢
  clear hxe
  obtain ⟨xm,xn,⟨b0,b1,b2,b3,b4,b5,b6,b7,xh,xl⟩,xs⟩:=x
  obtain ⟨prog,gs,ps,ms,gl,c0,c1,c2,c3,w0,w1,w2,w3,ts,ck,pr⟩:=s
  obtain ⟨rp,rg,rq,rm,rl,r0,r1,r2,r3,rt,⟨h_rp,s_rp,l_rp⟩,⟨h_rg,s_rg,l_rg⟩,⟨h_rq,s_rq,l_rq⟩,⟨h_rm,s_rm,l_rm⟩,⟨h_rl,s_rl,l_rl⟩,⟨h_r0,s_r0,l_r0⟩,⟨h_r1,s_r1,l_r1⟩,⟨h_r2,s_r2,l_r2⟩,⟨h_r3,s_r3,l_r3⟩,⟨h_rt,s_rt,l_rt⟩,hst_⟩:=stR prog gs ps ms gl c0 c1 c2 c3 w0 w1 w2 w3 ts ck pr
  dsimp only at p2 hl hx ⊢
  rw [stQ_mk,stQ_mk,← h_rp,← h_rg,← h_rq,← h_rm,← h_rl,← h_r0,← h_r1,← h_r2,← h_r3,← h_rt]
  obtain ⟨rq',h_rq'⟩ : ∃ r,r=(ps.set (p.toNat - 1) ⟨xm,0,⟨b0,b1,b2,b3,b4,b5,b6,b7,xh,xl⟩,xs⟩).map pC:=⟨_,rfl⟩
  rw [← h_rq']
  obtain ⟨i,hi⟩ : ∃ i:Int,i=p - 1:=⟨_,rfl⟩
  obtain ⟨k,hk⟩ : ∃ k:Nat,0+i.toNat=k:=⟨_,rfl⟩
  have gx:rq.getD k []=pC ⟨xm,xn,⟨b0,b1,b2,b3,b4,b5,b6,b7,xh,xl⟩,xs⟩:=getD_rows (x:=(⟨xm,xn,⟨b0,b1,b2,b3,b4,b5,b6,b7,xh,xl⟩,xs⟩ : PD)) h_rq (by rw [show k=p.toNat - 1 by omega]; exact hx)
  obtain ⟨ra,ea,ga,la,qa⟩:=upd_row (show k < rq.length by omega) gx 1 [.int .i64 0]
  have hfin:rq'=ra:=by
    rw [h_rq',map_set,← h_rq,qa,show p.toNat - 1=k by omega]; rfl
  subst hfin
  clear hst_ h_rp h_rg h_rq h_rm h_rl h_r0 h_r1 h_r2 h_r3 h_rt h_rq' l_rp l_rg l_rm l_rl l_r0 l_r1 l_r2 l_r3 l_rt qa hx
  refine callsV_l hD Try.func71 ok71 rfl rfl (by simp only [List.map_cons,List.map_nil,V.sh,V.shL,stL,stN,stK,stH,s_rp,s_rg,s_rq,s_rm,s_rl,s_r0,s_r1,s_r2,s_r3,s_rt]) fun P L Q hP hL hQ=>?_
  have lq:L rq=rq.length:=hL rq
  have lE:L rq=L rq':=by rw [hL,hL]; omega
  repeat' (cbv; first|refine .y ?_|refine .n ?_|refine .s (fun hc=>?_) fun hc=>?_|refine .x ?_|refine .r ?_|refine .e fun v hv=>?_|refine .a fun v hv=>?_|refine .d ?_|refine .u fun vr vn hvr hvn hvl=>?_|fail)
  all_goals (try cbv)
  (refine hQ _ ⟨?_,?_,?_,?_,?_⟩ <;> (try cbv) <;> (repeat' first|exact True.intro|exact rfl|assumption|exact FrR.mk rfl|exact FrS.mk rfl|(rw [hL]; rfl)|refine ⟨?_,?_⟩|fail))
set_option maxHeartbeats 2000000 in
theorem c72 (s:SD) (p v:Int) (p1:1≤p) (p2:p.toNat≤s.ps.length) (hl:s.ps.length≤1000000) (hr:mayR (getP s p).r=true) :
    CallsV Try.prog 72 [.io (stQ s),.int .i64 p,.int .i64 v] (.int .i64 (localF s p).2) [.io (stQ (localF s p).1),.undef,.undef] true:=by
  have hx:=getP_of (s:=s) (p:=p) (by omega)
  obtain ⟨x,hxe⟩ : ∃ x,x=getP s p:=⟨_,rfl⟩
  obtain ⟨r',g,b,cp,hloc⟩ : ∃ r' g b,CallsV Try.prog 102 [.agg (rC x.r)] (.tup [.agg (rC r'),.int .i64 g,.bool b]) [.undef] true∧localF s p=(setP s p { x with r:=r' },g):=by
    rw [hxe]
    unfold localF
    cases he:listR (getP s p).r with
    | nil =>
      refine ⟨_,_,_,r_Pop0 hr he,?_⟩
      have:setP s p { getP s p with r:=(getP s p).r }=s:=by
        unfold setP
        have e:s.ps.set (p.toNat - 1) { getP s p with r:=(getP s p).r }=s.ps:=by
          refine List.ext_getElem? fun j=>?_
          by_cases hj:p.toNat - 1=j
          · subst hj; rw [List.getElem?_set_self (by omega),hx]
          · rw [List.getElem?_set_ne hj]
        rw [e]
      rw [this]
    | cons y l=>exact ⟨_,_,_,r_Pop hr he,rfl⟩
  rw [hloc]
  clear hloc hr
  unfold setP
  dsimp only
  rw [← hxe] at hx
  clear hxe
  obtain ⟨xm,xn,⟨b0,b1,b2,b3,b4,b5,b6,b7,xh,xl⟩,xs⟩:=x
  obtain ⟨d0,d1,d2,d3,d4,d5,d6,d7,dh,dl⟩:=r'
  obtain ⟨prog,gs,ps,ms,gl,c0,c1,c2,c3,w0,w1,w2,w3,ts,ck,pr⟩:=s
  obtain ⟨rp,rg,rq,rm,rl,r0,r1,r2,r3,rt,⟨h_rp,s_rp,l_rp⟩,⟨h_rg,s_rg,l_rg⟩,⟨h_rq,s_rq,l_rq⟩,⟨h_rm,s_rm,l_rm⟩,⟨h_rl,s_rl,l_rl⟩,⟨h_r0,s_r0,l_r0⟩,⟨h_r1,s_r1,l_r1⟩,⟨h_r2,s_r2,l_r2⟩,⟨h_r3,s_r3,l_r3⟩,⟨h_rt,s_rt,l_rt⟩,hst_⟩:=stR prog gs ps ms gl c0 c1 c2 c3 w0 w1 w2 w3 ts ck pr
  dsimp only at p2 hl hx cp ⊢
  rw [stQ_mk,stQ_mk,← h_rp,← h_rg,← h_rq,← h_rm,← h_rl,← h_r0,← h_r1,← h_r2,← h_r3,← h_rt]
  obtain ⟨rq',h_rq'⟩ : ∃ r,r=(ps.set (p.toNat - 1) ⟨xm,xn,⟨d0,d1,d2,d3,d4,d5,d6,d7,dh,dl⟩,xs⟩).map pC:=⟨_,rfl⟩
  rw [← h_rq']
  obtain ⟨i,hi⟩ : ∃ i:Int,i=p - 1:=⟨_,rfl⟩
  obtain ⟨k,hk⟩ : ∃ k:Nat,0+i.toNat=k:=⟨_,rfl⟩
  have gx:rq.getD k []=pC ⟨xm,xn,⟨b0,b1,b2,b3,b4,b5,b6,b7,xh,xl⟩,xs⟩:=getD_rows (x:=(⟨xm,xn,⟨b0,b1,b2,b3,b4,b5,b6,b7,xh,xl⟩,xs⟩ : PD)) h_rq (by rw [show k=p.toNat - 1 by omega]; exact hx)
  obtain ⟨ra,ea,ga,la,qa⟩:=upd_row (show k < rq.length by omega) gx 2 [.int .i64 d0,.int .i64 d1,.int .i64 d2,.int .i64 d3,.int .i64 d4,.int .i64 d5,.int .i64 d6,.int .i64 d7,.int .i64 dh,.int .i64 dl]
  have hfin:rq'=ra:=by
    rw [h_rq',map_set,← h_rq,qa,show p.toNat - 1=k by omega]; rfl
  subst hfin
  clear hst_ h_rp h_rg h_rq h_rm h_rl h_r0 h_r1 h_r2 h_r3 h_rt h_rq' l_rp l_rg l_rm l_rl l_r0 l_r1 l_r2 l_r3 l_rt qa hx
  refine callsV_l hD Try.func72 ok72 rfl rfl (by simp only [List.map_cons,List.map_nil,V.sh,V.shL,stL,stN,stK,stH,s_rp,s_rg,s_rq,s_rm,s_rl,s_r0,s_r1,s_r2,s_r3,s_rt]) fun P L Q hP hL hQ=>?_
  rw [← hP] at cp
  have lq:L rq=rq.length:=hL rq
  have lE:L rq=L rq':=by rw [hL,hL]; omega
  repeat' (cbv; first|refine .y ?_|refine .n ?_|refine .s (fun hc=>?_) fun hc=>?_|refine .x ?_|refine .r ?_|refine .e fun v hv=>?_|refine .a fun v hv=>?_|refine .d ?_|refine .u fun vr vn hvr hvn hvl=>?_|fail)
  all_goals (try cbv)
  (refine hQ _ ⟨?_,?_,?_,?_,?_⟩ <;> (try cbv) <;> (repeat' first|exact True.intro|exact rfl|assumption|exact FrR.mk rfl|exact FrS.mk rfl|(rw [hL]; rfl)|refine ⟨?_,?_⟩|fail))
set_option maxHeartbeats 2000000 in
theorem c73 (s:SD) (p v:Int) (hl:s.gl.length≤1000000) :
    CallsV Try.prog 73 [.io (stQ s),.int .i64 p,.int .i64 v] (.int .i64 (globalF s).2) [.io (stQ (globalF s).1),.undef,.undef] true:=by
  unfold globalF
  obtain ⟨prog,gs,ps,ms,gl,c0,c1,c2,c3,w0,w1,w2,w3,ts,ck,pr⟩:=s
  obtain ⟨rp,rg,rq,rm,rl,r0,r1,r2,r3,rt,⟨h_rp,s_rp,l_rp⟩,⟨h_rg,s_rg,l_rg⟩,⟨h_rq,s_rq,l_rq⟩,⟨h_rm,s_rm,l_rm⟩,⟨h_rl,s_rl,l_rl⟩,⟨h_r0,s_r0,l_r0⟩,⟨h_r1,s_r1,l_r1⟩,⟨h_r2,s_r2,l_r2⟩,⟨h_r3,s_r3,l_r3⟩,⟨h_rt,s_rt,l_rt⟩,hst_⟩:=stR prog gs ps ms gl c0 c1 c2 c3 w0 w1 w2 w3 ts ck pr
  dsimp only at hl ⊢
  cases gl with
  | nil =>
    dsimp only
    rw [stQ_mk,← h_rp,← h_rg,← h_rq,← h_rm,← h_rl,← h_r0,← h_r1,← h_r2,← h_r3,← h_rt]
    have hl0:rl.length=0:=l_rl
    clear hst_ h_rp h_rg h_rq h_rm h_rl h_r0 h_r1 h_r2 h_r3 h_rt l_rp l_rg l_rm l_rl l_rq l_r0 l_r1 l_r2 l_r3 l_rt
    refine callsV_l hD Try.func73 ok73 rfl rfl (by simp only [List.map_cons,List.map_nil,V.sh,V.shL,stL,stN,stK,stH,s_rp,s_rg,s_rq,s_rm,s_rl,s_r0,s_r1,s_r2,s_r3,s_rt]) fun P L Q hP hL hQ=>?_
    repeat' (cbv; first|refine .y ?_|refine .n ?_|refine .s (fun hc=>?_) fun hc=>?_|refine .x ?_|refine .r ?_|refine .e fun v hv=>?_|refine .a fun v hv=>?_|refine .d ?_|refine .u fun vr vn hvr hvn hvl=>?_|fail)
    all_goals (try cbv)
    (refine hQ _ ⟨?_,?_,?_,?_,?_⟩ <;> (try cbv) <;> (repeat' first|exact True.intro|exact rfl|assumption|exact FrR.mk rfl|exact FrS.mk rfl|(rw [hL]; rfl)|refine ⟨?_,?_⟩|fail))
  | cons g l =>
    dsimp only
    rw [stQ_mk,stQ_mk,← h_rp,← h_rg,← h_rq,← h_rm,← h_rl,← h_r0,← h_r1,← h_r2,← h_r3,← h_rt]
    obtain ⟨rl',h_rl'⟩ : ∃ r,r=l.map iC:=⟨_,rfl⟩
    have s_rl':V.shR rl'=rl':=by rw [h_rl']; exact shR_iC l
    have l_rl':rl'.length=l.length:=by simp [h_rl']
    rw [← h_rl']
    have gx:rl.getD (0:Int).toNat []=[.int .i64 g]:=by rw [h_rl]; rfl
    have hdr:rl.drop (1:Int).toNat=rl':=by rw [h_rl,h_rl']; rfl
    clear hst_ h_rp h_rg h_rq h_rm h_rl h_r0 h_r1 h_r2 h_r3 h_rt h_rl' l_rp l_rg l_rm l_rq l_r0 l_r1 l_r2 l_r3 l_rt
    simp only [List.length_cons] at l_rl hl
    have h01:(0:Int)≤1∧(1:Int)≤(rl.length:Int):=by omega
    refine callsV_l hD Try.func73 ok73 rfl rfl (by simp only [List.map_cons,List.map_nil,V.sh,V.shL,stL,stN,stK,stH,s_rp,s_rg,s_rq,s_rm,s_rl,s_r0,s_r1,s_r2,s_r3,s_rt]) fun P L Q hP hL hQ=>?_
    repeat' (cbv; first|refine .y ?_|refine .n ?_|refine .s (fun hc=>?_) fun hc=>?_|refine Lt.to h01 hdr ?_|refine .x ?_|refine .r ?_|refine .e fun v hv=>?_|refine .a fun v hv=>?_|refine .d ?_|refine .u fun vr vn hvr hvn hvl=>?_|fail)
    all_goals (try cbv)
    (refine hQ _ ⟨?_,?_,?_,?_,?_⟩ <;> (try cbv) <;> (repeat' first|exact True.intro|exact rfl|assumption|exact FrR.mk rfl|exact FrS.mk rfl|(rw [hL]; rfl)|refine ⟨?_,?_⟩|fail))
end Go.Ab
