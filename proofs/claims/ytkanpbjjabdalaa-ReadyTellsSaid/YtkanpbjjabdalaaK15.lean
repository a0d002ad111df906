/-
  Does a G stand where its status says? may a state be? the document's answers.
  May a state be? the document's answer.
-/
import Derived.Test.YtkanpbjjabdalaaK14
set_option linter.all false
namespace Go.Ab
open Go Go.Proofs
set_option maxRecDepth 100000
def standsB (s:SD) (n:Int):Bool :=
 let g:=s.gs.getD (n.toNat - 1) default
 decide (1<=g.st/\g.st<=5)&&decide (timesL (runnables s) n=(if g.st=1 then 1 else 0)/\timesL (onMs s true) n=(if g.st=2 then 1 else 0)/\timesL (waiters s) n=(if g.st=3 then 1 else 0)/\timesL (onMs s false) n=(if g.st=4 then 1 else 0)) &&
  (if g.st≠2/\g.st≠4 then decide (g.m=0) else decide (1<=g.m/\g.m<=s.ms.length/\(s.ms.getD (g.m.toNat - 1) ⟨0,0⟩).g=n))
theorem flat_ms (s:SD) (w:Bool):(onMs s w).length<=s.ms.length:=by
 unfold onMs; rw [List.length_map]; exact List.length_filter_le _ _
set_option maxHeartbeats 8000000 in
theorem c67 (s:SD) (hs:Fit s) (n:Int) (n1:1<=n) (n2:n.toNat<=s.gs.length) (b:Bool) (hb:b=standsB s n):CallsV Try.prog 67 [.agg (stC s),.int .i64 n] (.bool b) [.undef,.undef] true:=by
 have lr:(runnables s).length<=1000000000:=by
  have:=flat_len s.ps; have:=hs.ps; have:=hs.gl
  unfold runnables; rw [List.length_append]; omega
 have lw:(waiters s).length<=1000000000:=by
  have:=hs.w0; have:=hs.w1; have:=hs.w2; have:=hs.w3; have:=hs.ts
  unfold waiters; simp only [List.length_append,List.length_map]; omega
 have lm:=fun w=>flat_ms s w
 have hms:=hs.ms
 have hgs:=hs.gs
 have cr:=c29 s hs.ps hs.gl
 have cw:=c65 s hs.w0 hs.w1 hs.w2 hs.w3 hs.ts
 have ct:=c66 s hs.ms true
 have cf:=c66 s hs.ms false
 obtain ⟨x,hx⟩ : ∃ x,s.gs[n.toNat - 1]?=some x:=⟨_,List.getElem?_eq_getElem (by omega)⟩
 unfold standsB at hb
 rw [getD_of hx] at hb
 obtain ⟨tr,htr⟩ : ∃ z,z=timesL (runnables s) n:=⟨_,rfl⟩
 obtain ⟨tw,htw⟩ : ∃ z,z=timesL (waiters s) n:=⟨_,rfl⟩
 obtain ⟨tt,htt⟩ : ∃ z,z=timesL (onMs s true) n:=⟨_,rfl⟩
 obtain ⟨tf,htf⟩ : ∃ z,z=timesL (onMs s false) n:=⟨_,rfl⟩
 have kr:=c28 _ lr n tr htr
 have kw:=c28 _ lw n tw htw
 have kt:=c28 _ (by have:=lm true; omega) n tt htt
 have kf:=c28 _ (by have:=lm false; omega) n tf htf
 rw [<- htr,<- htw,<- htt,<- htf] at hb
 obtain ⟨qr,hqr⟩ : ∃ q,q=runnables s:=⟨_,rfl⟩
 obtain ⟨qw,hqw⟩ : ∃ q,q=waiters s:=⟨_,rfl⟩
 obtain ⟨qt,hqt⟩ : ∃ q,q=onMs s true:=⟨_,rfl⟩
 obtain ⟨qf,hqf⟩ : ∃ q,q=onMs s false:=⟨_,rfl⟩
 rw [<- hqr] at cr kr
 rw [<- hqw] at cw kw
 rw [<- hqt] at ct kt
 rw [<- hqf] at cf kf
 clear htr htw htt htf hqr hqw hqt hqf lr lw lm hs
 obtain ⟨ur,h_ur⟩ : ∃ r,r=qr.map iC:=⟨_,rfl⟩
 have s_ur:V.shR ur=ur:=by rw [h_ur]; exact shR_iC qr
 have l_ur:ur.length=qr.length:=by simp [h_ur]
 obtain ⟨uw,h_uw⟩ : ∃ r,r=qw.map iC:=⟨_,rfl⟩
 have s_uw:V.shR uw=uw:=by rw [h_uw]; exact shR_iC qw
 have l_uw:uw.length=qw.length:=by simp [h_uw]
 obtain ⟨ut,h_ut⟩ : ∃ r,r=qt.map iC:=⟨_,rfl⟩
 have s_ut:V.shR ut=ut:=by rw [h_ut]; exact shR_iC qt
 have l_ut:ut.length=qt.length:=by simp [h_ut]
 obtain ⟨uf,h_uf⟩ : ∃ r,r=qf.map iC:=⟨_,rfl⟩
 have s_uf:V.shR uf=uf:=by rw [h_uf]; exact shR_iC qf
 have l_uf:uf.length=qf.length:=by simp [h_uf]
 rw [<- h_ur] at cr kr
 rw [<- h_uw] at cw kw
 rw [<- h_ut] at ct kt
 rw [<- h_uf] at cf kf
 clear h_ur h_uw h_ut h_uf l_ur l_uw l_ut l_uf
 obtain ⟨prog,gs,ps,ms,gl,c0,c1,c2,c3,w0,w1,w2,w3,ts,ck,pr⟩:=s
 obtain ⟨rp,rg,rq,rm,rl,r0,r1,r2,r3,rt,⟨h_rp,s_rp,l_rp⟩,⟨h_rg,s_rg,l_rg⟩,⟨h_rq,s_rq,l_rq⟩,⟨h_rm,s_rm,l_rm⟩,⟨h_rl,s_rl,l_rl⟩,⟨h_r0,s_r0,l_r0⟩,⟨h_r1,s_r1,l_r1⟩,⟨h_r2,s_r2,l_r2⟩,⟨h_r3,s_r3,l_r3⟩,⟨h_rt,s_rt,l_rt⟩,hst_⟩:=stR prog gs ps ms gl c0 c1 c2 c3 w0 w1 w2 w3 ts ck pr
 dsimp only at n2 hms hgs cr cw ct cf hx hb
 rw [hst_] at cr cw ct cf ⊢
 refine callsV_q hD Try.func67 ok67 rfl rfl (by simp only [List.map_cons,List.map_nil,V.sh,V.shL,stL,s_rp,s_rg,s_rq,s_rm,s_rl,s_r0,s_r1,s_r2,s_r3,s_rt]) fun P Q hP hQ=>?_
 clear hst_ h_rp h_rq h_rl h_r0 h_r1 h_r2 h_r3 h_rt l_rp l_rq l_rl l_r0 l_r1 l_r2 l_r3 l_rt
 obtain ⟨k,hk⟩ : ∃ k:Int,k=n - 1:=⟨_,rfl⟩
 have ga:rg.getD k.toNat []=gC x:=by rw [show k.toNat=n.toNat - 1 by omega]; exact getD_rows h_rg hx
 have hat:5=5/\0<=k/\k.toNat < rg.length:=⟨rfl,by omega,by omega⟩
 obtain ⟨nm,hnm⟩ : ∃ n:Int,0<=n/\n.toNat=ms.length:=⟨ms.length,by omega,by omega⟩
 obtain ⟨xf,xp,xs,xm,xq⟩:=x
 dsimp only at hb
 clear hx
 by_cases hst:xs < 1\/5 < xs
 ·rw [decide_eq_false (p:=1<=xs/\xs<=5) (by omega),Bool.false_and,Bool.false_and] at hb
  try rw [<- hP] at cr
  try rw [<- hP] at cw
  try rw [<- hP] at ct
  try rw [<- hP] at cf
  try rw [<- hP] at kr
  try rw [<- hP] at kw
  try rw [<- hP] at kt
  try rw [<- hP] at kf
  repeat' (cbv; first|refine .y ?_|refine .n ?_|refine .s (fun hc=>?_) fun hc=>?_|refine .wn hk ?_|refine Lt.to hat ga ?_|refine .gq cr ?_|refine .gq cw ?_|refine .gq ct ?_|refine .gq cf ?_|refine .gq kr ?_|refine .gq kw ?_|refine .gq kt ?_|refine .gq kf ?_|refine .a fun v hv=>?_|refine .d ?_|refine .u fun vr vn hvr hvn hvl=>?_|fail)
  all_goals (try cbv)
  all_goals
   have hbe:b=false:=by exact hb
   subst hbe; refine hQ _ ?_; exact ⟨rfl,rfl,rfl,rfl,rfl⟩
 ·rw [decide_eq_true (p:=1<=xs/\xs<=5) (by omega),Bool.true_and] at hb
  by_cases hm:1<=xm/\xm<=nm
  ·obtain ⟨z,hz⟩ : ∃ z:Int,z=xm - 1:=⟨_,rfl⟩
   obtain ⟨y,hy⟩ : ∃ y,ms[z.toNat]?=some y:=⟨_,List.getElem?_eq_getElem (by omega)⟩
   have gy:=getD_rows h_rm hy
   have hat2:2=2/\0<=z/\z.toNat < rm.length:=⟨rfl,by omega,by omega⟩
   rw [show xm.toNat - 1=z.toNat by omega,getD_of hy] at hb
   obtain ⟨y0,y1⟩:=y
   have e5:(1<=xm/\xm<=(ms.length:Int)/\(⟨y0,y1⟩ : MD).g=n)=(y1=n):=propext ⟨fun h=>h.2.2,fun h=>⟨hm.1,by omega,h⟩⟩
   simp only [e5] at hb
   clear e5 hy h_rm h_rg
   rcases (show xs=1\/xs=2\/xs=3\/xs=4\/xs=5 by omega) with e|e|e|e|e <;> subst e
   all_goals
    simp only [Int.reduceEq,if_true,if_false,ne_eq,not_true_eq_false,not_false_eq_true,and_true,and_false,and_self] at hb
    try rw [<- hP] at cr
    try rw [<- hP] at cw
    try rw [<- hP] at ct
    try rw [<- hP] at cf
    try rw [<- hP] at kr
    try rw [<- hP] at kw
    try rw [<- hP] at kt
    try rw [<- hP] at kf
    repeat' (cbv; first|refine .y ?_|refine .n ?_|refine .s (fun hc=>?_) fun hc=>?_|refine .wn hz ?_|refine Lt.to hat2 gy ?_|refine .wn hk ?_|refine Lt.to hat ga ?_|refine Lt.wr' (v:=0) (by omega) (by omega) (by omega) ?_|refine Lt.wr' (v:=1) (by omega) (by omega) (by omega) ?_|refine Lt.wr' (v:=2) (by omega) (by omega) (by omega) ?_|refine Lt.wr' (v:=3) (by omega) (by omega) (by omega) ?_|refine Lt.wr' (v:=4) (by omega) (by omega) (by omega) ?_|refine .gq cr ?_|refine .gq cw ?_|refine .gq ct ?_|refine .gq cf ?_|refine .gq kr ?_|refine .gq kw ?_|refine .gq kt ?_|refine .gq kf ?_|refine .a fun v hv=>?_|refine .d ?_|refine .u fun vr vn hvr hvn hvl=>?_|fail)
    all_goals (try cbv)
    all_goals first
     |(
       have hbe:b=true:=by rw [hb]; simp only [Bool.and_eq_true,decide_eq_true_eq]; omega
       subst hbe; (refine hQ _ ?_; exact ⟨rfl,rfl,rfl,rfl,rfl⟩))
     |(
       have hbe:b=false:=by rw [hb]; simp only [Bool.and_eq_false_iff,decide_eq_false_iff_not]; omega
       subst hbe; (refine hQ _ ?_; exact ⟨rfl,rfl,rfl,rfl,rfl⟩))
  ·have e5:∀ q,(1<=xm/\xm<=(ms.length:Int)/\q=n)=False:=fun q=>propext ⟨fun h=>hm ⟨h.1,by omega⟩,False.elim⟩
   simp only [e5] at hb
   clear e5 h_rm h_rg
   rcases (show xs=1\/xs=2\/xs=3\/xs=4\/xs=5 by omega) with e|e|e|e|e <;> subst e
   all_goals
    simp only [Int.reduceEq,if_true,if_false,ne_eq,not_true_eq_false,not_false_eq_true,and_true,and_false,and_self,decide_false,Bool.and_false] at hb
    try rw [<- hP] at cr
    try rw [<- hP] at cw
    try rw [<- hP] at ct
    try rw [<- hP] at cf
    try rw [<- hP] at kr
    try rw [<- hP] at kw
    try rw [<- hP] at kt
    try rw [<- hP] at kf
    repeat' (cbv; first|refine .y ?_|refine .n ?_|refine .s (fun hc=>?_) fun hc=>?_|refine .wn hk ?_|refine Lt.to hat ga ?_|refine Lt.wr' (v:=0) (by omega) (by omega) (by omega) ?_|refine Lt.wr' (v:=1) (by omega) (by omega) (by omega) ?_|refine Lt.wr' (v:=2) (by omega) (by omega) (by omega) ?_|refine Lt.wr' (v:=3) (by omega) (by omega) (by omega) ?_|refine Lt.wr' (v:=4) (by omega) (by omega) (by omega) ?_|refine .gq cr ?_|refine .gq cw ?_|refine .gq ct ?_|refine .gq cf ?_|refine .gq kr ?_|refine .gq kw ?_|refine .gq kt ?_|refine .gq kf ?_|refine .a fun v hv=>?_|refine .d ?_|refine .u fun vr vn hvr hvn hvl=>?_|fail)
    all_goals (try cbv)
    all_goals first
     |(
       have hbe:b=true:=by rw [hb]; simp only [Bool.and_eq_true,decide_eq_true_eq]; omega
       subst hbe; (refine hQ _ ?_; exact ⟨rfl,rfl,rfl,rfl,rfl⟩))
     |(
       have hbe:b=false:=by first|exact hb|(rw [hb]; simp only [Bool.and_eq_false_iff,decide_eq_false_iff_not]; omega)
       subst hbe; (refine hQ _ ?_; exact ⟨rfl,rfl,rfl,rfl,rfl⟩))
     |(exfalso; omega)
end Go.Ab

namespace Go.Ab
open Go Go.Proofs
set_option maxRecDepth 100000
def okCt (c:Int) (w:List Int):Bool:=decide (0<=c/\c<=1000000/\(c<=0\/w.length=0))
def inB (n:Int) (l:List Int):Bool:=l.all fun x=>decide (1<=x/\x<=n)
def mayS (s:SD):Bool :=
 mayP s.prog&&(decide (1<=s.gs.length/\s.gs.length<=1000/\s.ps.length=8/\1<=s.pr/\s.pr<=8/\s.ms.length<=1000)&&(decide (0<=s.ck/\s.ck < 2305843009213693952)&&(mayT [] s.ts&&(s.gs.all (okG s.prog)&&(holdsB s &&
  (okCt s.c0 s.w0&&(okCt s.c1 s.w1&&(okCt s.c2 s.w2&&(okCt s.c3 s.w3 &&
   (inB s.gs.length (runnables s)&&(inB s.gs.length (waiters s)&&(inB s.gs.length (onMs s true)&&(inB s.gs.length (onMs s false) &&
    (List.range s.gs.length).all fun j:Nat=>standsB s (j+1))))))))))))))
set_option maxHeartbeats 8000000 in
theorem c23 (s:SD) (hs:Fit s) (b:Bool) (hb:b=mayS s):CallsV Try.prog 23 [.agg (stC s)] (.bool b) [.undef] true:=by
 have lr:(runnables s).length<=1000000000:=by
  have:=flat_len s.ps; have:=hs.ps; have:=hs.gl
  unfold runnables; rw [List.length_append]; omega
 have lw:(waiters s).length<=1000000000:=by
  have:=hs.w0; have:=hs.w1; have:=hs.w2; have:=hs.w3; have:=hs.ts
  unfold waiters; simp only [List.length_append,List.length_map]; omega
 have lm:=fun w=>flat_ms s w
 have hms:=hs.ms
 have hgs:=hs.gs
 obtain ⟨n,hn0,hn⟩ : ∃ n:Int,0<=n/\n.toNat=s.gs.length:=⟨s.gs.length,by omega,by omega⟩
 have hnc:(s.gs.length:Int)=n:=by omega
 obtain ⟨bp,hbp⟩ : ∃ z,z=mayP s.prog:=⟨_,rfl⟩
 obtain ⟨bl,hbl⟩ : ∃ z,z=decide (0<=s.ck/\s.ck < 2305843009213693952):=⟨_,rfl⟩
 obtain ⟨bt,hbt⟩ : ∃ z,z=mayT [] s.ts:=⟨_,rfl⟩
 obtain ⟨bg,hbg⟩ : ∃ z,z=s.gs.all (okG s.prog):=⟨_,rfl⟩
 obtain ⟨bh,hbh⟩ : ∃ z,z=holdsB s:=⟨_,rfl⟩
 obtain ⟨i1,hi1⟩ : ∃ z,z=inB n (runnables s):=⟨_,rfl⟩
 obtain ⟨i2,hi2⟩ : ∃ z,z=inB n (waiters s):=⟨_,rfl⟩
 obtain ⟨i3,hi3⟩ : ∃ z,z=inB n (onMs s true):=⟨_,rfl⟩
 obtain ⟨i4,hi4⟩ : ∃ z,z=inB n (onMs s false):=⟨_,rfl⟩
 have cp:=c59 s.prog hs.prog hs.code bp hbp
 have cl:=c60 s.ck bl hbl
 have ct:=c61 s.ts hs.ts bt hbt
 have cg:=c62 s hs.prog hs.gs bg hbg
 have ch:=c63 s hs.ps hs.ms bh hbh
 have cr:=c29 s hs.ps hs.gl
 have cw:=c65 s hs.w0 hs.w1 hs.w2 hs.w3 hs.ts
 have co:=c66 s hs.ms true
 have cf:=c66 s hs.ms false
 have kr:=c64 _ lr n i1 hi1
 have kw:=c64 _ lw n i2 hi2
 have ko:=c64 _ (by have:=lm true; omega) n i3 hi3
 have kf:=c64 _ (by have:=lm false; omega) n i4 hi4
 obtain ⟨S,hS⟩ : ∃ S:Int->Bool,S=standsB s:=⟨_,rfl⟩
 have cs:∀ (i:Int),1<=i->i.toNat<=s.gs.length->∀ b,b=S i->CallsV Try.prog 67 [.agg (stC s),.int .i64 i] (.bool b) [.undef,.undef] true:=fun i h1 h2 b hb=>c67 s hs i h1 h2 b (by rw [hb,hS])
 unfold mayS at hb
 rw [hnc,<- hbp,<- hbl,<- hbt,<- hbg,<- hbh,<- hi1,<- hi2,<- hi3,<- hi4,<- hS] at hb
 clear hbp hbl hbt hbg hbh hi1 hi2 hi3 hi4 hS
 obtain ⟨qr,hqr⟩ : ∃ q,q=runnables s:=⟨_,rfl⟩
 obtain ⟨qw,hqw⟩ : ∃ q,q=waiters s:=⟨_,rfl⟩
 obtain ⟨qt,hqt⟩ : ∃ q,q=onMs s true:=⟨_,rfl⟩
 obtain ⟨qf,hqf⟩ : ∃ q,q=onMs s false:=⟨_,rfl⟩
 rw [<- hqr] at cr kr
 rw [<- hqw] at cw kw
 rw [<- hqt] at co ko
 rw [<- hqf] at cf kf
 clear hqr hqw hqt hqf lr lw lm hs hnc
 obtain ⟨ur,h_ur⟩ : ∃ r,r=qr.map iC:=⟨_,rfl⟩
 have s_ur:V.shR ur=ur:=by rw [h_ur]; exact shR_iC qr
 have l_ur:ur.length=qr.length:=by simp [h_ur]
 obtain ⟨uw,h_uw⟩ : ∃ r,r=qw.map iC:=⟨_,rfl⟩
 have s_uw:V.shR uw=uw:=by rw [h_uw]; exact shR_iC qw
 have l_uw:uw.length=qw.length:=by simp [h_uw]
 obtain ⟨ut,h_ut⟩ : ∃ r,r=qt.map iC:=⟨_,rfl⟩
 have s_ut:V.shR ut=ut:=by rw [h_ut]; exact shR_iC qt
 have l_ut:ut.length=qt.length:=by simp [h_ut]
 obtain ⟨uf,h_uf⟩ : ∃ r,r=qf.map iC:=⟨_,rfl⟩
 have s_uf:V.shR uf=uf:=by rw [h_uf]; exact shR_iC qf
 have l_uf:uf.length=qf.length:=by simp [h_uf]
 rw [<- h_ur] at cr kr
 rw [<- h_uw] at cw kw
 rw [<- h_ut] at co ko
 rw [<- h_uf] at cf kf
 clear h_ur h_uw h_ut h_uf l_ur l_uw l_ut l_uf
 obtain ⟨prog,gs,ps,ms,gl,c0,c1,c2,c3,w0,w1,w2,w3,ts,ck,pr⟩:=s
 obtain ⟨rp,rg,rq,rm,rl,r0,r1,r2,r3,rt,⟨h_rp,s_rp,l_rp⟩,⟨h_rg,s_rg,l_rg⟩,⟨h_rq,s_rq,l_rq⟩,⟨h_rm,s_rm,l_rm⟩,⟨h_rl,s_rl,l_rl⟩,⟨h_r0,s_r0,l_r0⟩,⟨h_r1,s_r1,l_r1⟩,⟨h_r2,s_r2,l_r2⟩,⟨h_r3,s_r3,l_r3⟩,⟨h_rt,s_rt,l_rt⟩,hst_⟩:=stR prog gs ps ms gl c0 c1 c2 c3 w0 w1 w2 w3 ts ck pr
 dsimp only at hn hms hgs cp cl ct cg ch cr cw co cf cs hb
 rw [hst_] at cg ch cr cw co cf cs ⊢
 rw [<- h_rp] at cp
 rw [<- h_rt] at ct
 refine callsV_q hD Try.func23 ok23 rfl rfl (by simp only [List.map_cons,List.map_nil,V.sh,V.shL,stL,s_rp,s_rg,s_rq,s_rm,s_rl,s_r0,s_r1,s_r2,s_r3,s_rt]) fun P Q hP hQ=>?_
 clear hst_ h_rp h_rq h_rl h_r0 h_r1 h_r2 h_r3 h_rt h_rg h_rm l_rp l_rl l_rt
 by_cases hlin:1<=gs.length/\gs.length<=1000/\ps.length=8/\1<=pr/\pr<=8/\ms.length<=1000
 ·rw [decide_eq_true hlin,Bool.true_and] at hb
  cases bp with
  |false =>
   try rw [<- hP] at cp
   repeat' (cbv; first|refine .y ?_|refine .n ?_|refine .s (fun hc=>?_) fun hc=>?_|refine .gq cp ?_|refine .a fun v hv=>?_|refine .d ?_|refine .u fun vr vn hvr hvn hvl=>?_|fail)
   all_goals (try cbv)
   have hbe:b=false:=by exact hb
   subst hbe; refine hQ _ ?_; exact ⟨rfl,rfl,rfl,rfl,rfl⟩
  |true =>
  cases bl with
  |false =>
   try rw [<- hP] at cp
   try rw [<- hP] at cl
   repeat' (cbv; first|refine .y ?_|refine .n ?_|refine .s (fun hc=>?_) fun hc=>?_|refine .gq cp ?_|refine .gq cl ?_|refine .a fun v hv=>?_|refine .d ?_|refine .u fun vr vn hvr hvn hvl=>?_|fail)
   all_goals (try cbv)
   have hbe:b=false:=by exact hb
   subst hbe; refine hQ _ ?_; exact ⟨rfl,rfl,rfl,rfl,rfl⟩
  |true =>
  cases bt with
  |false =>
   try rw [<- hP] at cp
   try rw [<- hP] at cl
   try rw [<- hP] at ct
   repeat' (cbv; first|refine .y ?_|refine .n ?_|refine .s (fun hc=>?_) fun hc=>?_|refine .gq cp ?_|refine .gq cl ?_|refine .gq ct ?_|refine .a fun v hv=>?_|refine .d ?_|refine .u fun vr vn hvr hvn hvl=>?_|fail)
   all_goals (try cbv)
   have hbe:b=false:=by exact hb
   subst hbe; refine hQ _ ?_; exact ⟨rfl,rfl,rfl,rfl,rfl⟩
  |true =>
  cases bg with
  |false =>
   try rw [<- hP] at cp
   try rw [<- hP] at cl
   try rw [<- hP] at ct
   try rw [<- hP] at cg
   repeat' (cbv; first|refine .y ?_|refine .n ?_|refine .s (fun hc=>?_) fun hc=>?_|refine .gq cp ?_|refine .gq cl ?_|refine .gq ct ?_|refine .gq cg ?_|refine .a fun v hv=>?_|refine .d ?_|refine .u fun vr vn hvr hvn hvl=>?_|fail)
   all_goals (try cbv)
   have hbe:b=false:=by exact hb
   subst hbe; refine hQ _ ?_; exact ⟨rfl,rfl,rfl,rfl,rfl⟩
  |true =>
  cases bh with
  |false =>
   try rw [<- hP] at cp
   try rw [<- hP] at cl
   try rw [<- hP] at ct
   try rw [<- hP] at cg
   try rw [<- hP] at ch
   repeat' (cbv; first|refine .y ?_|refine .n ?_|refine .s (fun hc=>?_) fun hc=>?_|refine .gq cp ?_|refine .gq cl ?_|refine .gq ct ?_|refine .gq cg ?_|refine .gq ch ?_|refine .a fun v hv=>?_|refine .d ?_|refine .u fun vr vn hvr hvn hvl=>?_|fail)
   all_goals (try cbv)
   have hbe:b=false:=by exact hb
   subst hbe; refine hQ _ ?_; exact ⟨rfl,rfl,rfl,rfl,rfl⟩
  |true =>
  simp only [Bool.true_and] at hb
  try rw [<- hP] at cp
  try rw [<- hP] at cl
  try rw [<- hP] at ct
  try rw [<- hP] at cg
  try rw [<- hP] at ch
  repeat' (cbv; first|refine .y ?_|refine .n ?_|refine .s (fun hc=>?_) fun hc=>?_|refine .gq cp ?_|refine .gq cl ?_|refine .gq ct ?_|refine .gq cg ?_|refine .gq ch ?_|refine .a fun v hv=>?_|refine .d ?_|refine .u fun vr vn hvr hvn hvl=>?_|fail)
  all_goals (try cbv)
  obtain ⟨T,hT⟩ : ∃ T,T=(i1&&(i2&&(i3&&(i4&&(List.range gs.length).all fun j:Nat=>S (j+1))))):=⟨_,rfl⟩
  rw [<- hT] at hb
  refine LoopQ.to (ι:=Int) (fun i=>⟨tab .undef [(1,.ptr 100 0),(3,.int .i64 i)],tab .dead [(100,.box (stL rp rg rq rm rl c0 c1 c2 c3 r0 r1 r2 r3 rt ck pr))]⟩)
   (fun i=>(i=0/\b=(okCt c0 w0&&(okCt c1 w1&&(okCt c2 w2&&(okCt c3 w3&&T)))))\/(i=1/\b=(okCt c1 w1&&(okCt c2 w2&&(okCt c3 w3&&T))))\/(i=2/\b=(okCt c2 w2&&(okCt c3 w3&&T)))\/(i=3/\b=(okCt c3 w3&&T))\/(i=4/\b=T))
   (fun i=>(4 - i).toNat) 0 (.inl ⟨rfl,hb⟩) rfl fun i hi A hA=>?_
  clear hb
  rcases hi with ⟨rfl,hi⟩|⟨rfl,hi⟩|⟨rfl,hi⟩|⟨rfl,hi⟩|⟨rfl,hi⟩
  ·clear hT cs
   by_cases hc0:0<=c0/\c0<=1000000/\(c0<=0\/w0.length=0)
   ·rw [show okCt c0 w0=true from decide_eq_true hc0,Bool.true_and] at hi
    repeat' (cbv; first|refine .y ?_|refine .n ?_|refine .s (fun hc=>?_) fun hc=>?_|refine .a fun v hv=>?_|refine .d ?_|refine .u fun vr vn hvr hvn hvl=>?_|fail)
    all_goals (try cbv)
    all_goals first
     | exact hA v _ (.inr (.inl ⟨hv,hi⟩)) (by omega) rfl
     | (exfalso; omega)
   ·rw [show okCt c0 w0=false from decide_eq_false hc0,Bool.false_and] at hi
    repeat' (cbv; first|refine .y ?_|refine .n ?_|refine .s (fun hc=>?_) fun hc=>?_|refine .a fun v hv=>?_|refine .d ?_|refine .u fun vr vn hvr hvn hvl=>?_|fail)
    all_goals (try cbv)
    all_goals first
     | (
        have hbe:b=false:=hi
        subst hbe; (refine hQ _ ?_; exact ⟨rfl,rfl,rfl,rfl,rfl⟩))
     | (exfalso; omega)
  ·clear hT cs
   by_cases hc0:0<=c1/\c1<=1000000/\(c1<=0\/w1.length=0)
   ·rw [show okCt c1 w1=true from decide_eq_true hc0,Bool.true_and] at hi
    repeat' (cbv; first|refine .y ?_|refine .n ?_|refine .s (fun hc=>?_) fun hc=>?_|refine .a fun v hv=>?_|refine .d ?_|refine .u fun vr vn hvr hvn hvl=>?_|fail)
    all_goals (try cbv)
    all_goals first
     | exact hA v _ (.inr (.inr (.inl ⟨hv,hi⟩))) (by omega) rfl
     | (exfalso; omega)
   ·rw [show okCt c1 w1=false from decide_eq_false hc0,Bool.false_and] at hi
    repeat' (cbv; first|refine .y ?_|refine .n ?_|refine .s (fun hc=>?_) fun hc=>?_|refine .a fun v hv=>?_|refine .d ?_|refine .u fun vr vn hvr hvn hvl=>?_|fail)
    all_goals (try cbv)
    all_goals first
     | (
        have hbe:b=false:=hi
        subst hbe; (refine hQ _ ?_; exact ⟨rfl,rfl,rfl,rfl,rfl⟩))
     | (exfalso; omega)
  ·clear hT cs
   by_cases hc0:0<=c2/\c2<=1000000/\(c2<=0\/w2.length=0)
   ·rw [show okCt c2 w2=true from decide_eq_true hc0,Bool.true_and] at hi
    repeat' (cbv; first|refine .y ?_|refine .n ?_|refine .s (fun hc=>?_) fun hc=>?_|refine .a fun v hv=>?_|refine .d ?_|refine .u fun vr vn hvr hvn hvl=>?_|fail)
    all_goals (try cbv)
    all_goals first
     | exact hA v _ (.inr (.inr (.inr (.inl ⟨hv,hi⟩)))) (by omega) rfl
     | (exfalso; omega)
   ·rw [show okCt c2 w2=false from decide_eq_false hc0,Bool.false_and] at hi
    repeat' (cbv; first|refine .y ?_|refine .n ?_|refine .s (fun hc=>?_) fun hc=>?_|refine .a fun v hv=>?_|refine .d ?_|refine .u fun vr vn hvr hvn hvl=>?_|fail)
    all_goals (try cbv)
    all_goals first
     | (
        have hbe:b=false:=hi
        subst hbe; (refine hQ _ ?_; exact ⟨rfl,rfl,rfl,rfl,rfl⟩))
     | (exfalso; omega)
  ·clear hT cs
   by_cases hc0:0<=c3/\c3<=1000000/\(c3<=0\/w3.length=0)
   ·rw [show okCt c3 w3=true from decide_eq_true hc0,Bool.true_and] at hi
    repeat' (cbv; first|refine .y ?_|refine .n ?_|refine .s (fun hc=>?_) fun hc=>?_|refine .a fun v hv=>?_|refine .d ?_|refine .u fun vr vn hvr hvn hvl=>?_|fail)
    all_goals (try cbv)
    all_goals first
     | exact hA v _ (.inr (.inr (.inr (.inr ⟨hv,hi⟩)))) (by omega) rfl
     | (exfalso; omega)
   ·rw [show okCt c3 w3=false from decide_eq_false hc0,Bool.false_and] at hi
    repeat' (cbv; first|refine .y ?_|refine .n ?_|refine .s (fun hc=>?_) fun hc=>?_|refine .a fun v hv=>?_|refine .d ?_|refine .u fun vr vn hvr hvn hvl=>?_|fail)
    all_goals (try cbv)
    all_goals first
     | (
        have hbe:b=false:=hi
        subst hbe; (refine hQ _ ?_; exact ⟨rfl,rfl,rfl,rfl,rfl⟩))
     | (exfalso; omega)
  ·rw [hT] at hi
   clear hT
   obtain ⟨U,hU⟩ : ∃ U,U=(List.range gs.length).all fun j:Nat=>S (j+1):=⟨_,rfl⟩
   rw [<- hU] at hi
   have hlg:0<=n/\n.toNat=rg.length:=⟨hn0,by omega⟩
   cases i1 with
   |false =>
    clear hU cs
    try rw [<- hP] at cr
    try rw [<- hP] at kr
    repeat' (cbv; first|refine .y ?_|refine .n ?_|refine .s (fun hc=>?_) fun hc=>?_|refine .ln hlg ?_|refine .gq cr ?_|refine .gq kr ?_|refine .a fun v hv=>?_|refine .d ?_|refine .u fun vr vn hvr hvn hvl=>?_|fail)
    all_goals (try cbv)
    have hbe:b=false:=by exact hi
    subst hbe; refine hQ _ ?_; exact ⟨rfl,rfl,rfl,rfl,rfl⟩
   |true =>
   cases i2 with
   |false =>
    clear hU cs
    try rw [<- hP] at cr
    try rw [<- hP] at kr
    try rw [<- hP] at cw
    try rw [<- hP] at kw
    repeat' (cbv; first|refine .y ?_|refine .n ?_|refine .s (fun hc=>?_) fun hc=>?_|refine .ln hlg ?_|refine .gq cr ?_|refine .gq kr ?_|refine .gq cw ?_|refine .gq kw ?_|refine .a fun v hv=>?_|refine .d ?_|refine .u fun vr vn hvr hvn hvl=>?_|fail)
    all_goals (try cbv)
    have hbe:b=false:=by exact hi
    subst hbe; refine hQ _ ?_; exact ⟨rfl,rfl,rfl,rfl,rfl⟩
   |true =>
   cases i3 with
   |false =>
    clear hU cs
    try rw [<- hP] at cr
    try rw [<- hP] at kr
    try rw [<- hP] at cw
    try rw [<- hP] at kw
    try rw [<- hP] at co
    try rw [<- hP] at ko
    repeat' (cbv; first|refine .y ?_|refine .n ?_|refine .s (fun hc=>?_) fun hc=>?_|refine .ln hlg ?_|refine .gq cr ?_|refine .gq kr ?_|refine .gq cw ?_|refine .gq kw ?_|refine .gq co ?_|refine .gq ko ?_|refine .a fun v hv=>?_|refine .d ?_|refine .u fun vr vn hvr hvn hvl=>?_|fail)
    all_goals (try cbv)
    have hbe:b=false:=by exact hi
    subst hbe; refine hQ _ ?_; exact ⟨rfl,rfl,rfl,rfl,rfl⟩
   |true =>
   cases i4 with
   |false =>
    clear hU cs
    try rw [<- hP] at cr
    try rw [<- hP] at kr
    try rw [<- hP] at cw
    try rw [<- hP] at kw
    try rw [<- hP] at co
    try rw [<- hP] at ko
    try rw [<- hP] at cf
    try rw [<- hP] at kf
    repeat' (cbv; first|refine .y ?_|refine .n ?_|refine .s (fun hc=>?_) fun hc=>?_|refine .ln hlg ?_|refine .gq cr ?_|refine .gq kr ?_|refine .gq cw ?_|refine .gq kw ?_|refine .gq co ?_|refine .gq ko ?_|refine .gq cf ?_|refine .gq kf ?_|refine .a fun v hv=>?_|refine .d ?_|refine .u fun vr vn hvr hvn hvl=>?_|fail)
    all_goals (try cbv)
    have hbe:b=false:=by exact hi
    subst hbe; refine hQ _ ?_; exact ⟨rfl,rfl,rfl,rfl,rfl⟩
   |true =>
   simp only [Bool.true_and] at hi
   try rw [<- hP] at cr
   try rw [<- hP] at kr
   try rw [<- hP] at cw
   try rw [<- hP] at kw
   try rw [<- hP] at co
   try rw [<- hP] at ko
   try rw [<- hP] at cf
   try rw [<- hP] at kf
   repeat' (cbv; first|refine .y ?_|refine .n ?_|refine .s (fun hc=>?_) fun hc=>?_|refine .ln hlg ?_|refine .gq cr ?_|refine .gq kr ?_|refine .gq cw ?_|refine .gq kw ?_|refine .gq co ?_|refine .gq ko ?_|refine .gq cf ?_|refine .gq kf ?_|refine .a fun v hv=>?_|refine .d ?_|refine .u fun vr vn hvr hvn hvl=>?_|fail)
   all_goals (try cbv)
   rw [hU] at hi
   clear hU
   refine LoopQ.to (ι:=Int) (fun i=>⟨tab .undef [(1,.ptr 100 0),(4,.int .i64 n),(5,.int .i64 i)],tab .dead [(100,.box (stL rp rg rq rm rl c0 c1 c2 c3 r0 r1 r2 r3 rt ck pr))]⟩)
    (fun i=>1<=i/\(i - 1).toNat<=gs.length/\b=((List.range gs.length).drop (i - 1).toNat).all fun j:Nat=>S (j+1)) (fun i=>gs.length - (i - 1).toNat) 1 ⟨by omega,by omega,hi⟩ rfl fun i ⟨j0,j1,hi⟩ A hA=>?_
   rcases drop_cases (l:=List.range gs.length) (i:=(i - 1).toNat) (by rw [List.length_range]; exact j1) with ⟨e,hd⟩|⟨hlt,x,hd,hx⟩
   ·rw [hd] at hi
    rw [List.length_range] at e
    repeat' (cbv; first|refine .y ?_|refine .n ?_|refine .s (fun hc=>?_) fun hc=>?_|refine .a fun v hv=>?_|refine .d ?_|refine .u fun vr vn hvr hvn hvl=>?_|fail)
    all_goals (try cbv)
    have hbe:b=true:=by rw [hi]; rfl
    subst hbe; refine hQ _ ?_; exact ⟨rfl,rfl,rfl,rfl,rfl⟩
   ·rw [hd,List.all_cons] at hi
    rw [List.length_range] at hlt
    rw [List.getElem?_range hlt] at hx
    obtain ⟨y,hy⟩ : ∃ y,y=S i:=⟨_,rfl⟩
    have hxi:((x:Int)+1)=i:=by cases hx; omega
    rw [hxi,<- hy] at hi
    have c1:=cs i j0 (by omega) y hy
    cases y with
    |false =>
     try rw [<- hP] at c1
     repeat' (cbv; first|refine .y ?_|refine .n ?_|refine .s (fun hc=>?_) fun hc=>?_|refine .gq c1 ?_|refine .a fun v hv=>?_|refine .d ?_|refine .u fun vr vn hvr hvn hvl=>?_|fail)
     all_goals (try cbv)
     have hbe:b=false:=by exact hi
     subst hbe; refine hQ _ ?_; exact ⟨rfl,rfl,rfl,rfl,rfl⟩
    |true =>
     try rw [<- hP] at c1
     repeat' (cbv; first|refine .y ?_|refine .n ?_|refine .s (fun hc=>?_) fun hc=>?_|refine .gq c1 ?_|refine .a fun v hv=>?_|refine .d ?_|refine .u fun vr vn hvr hvn hvl=>?_|fail)
     all_goals (try cbv)
     exact hA v _ ⟨by omega,by omega,by rw [hi,Bool.true_and,show (v - 1).toNat=(i - 1).toNat+1 by omega]⟩ (by omega) rfl
 ·rw [decide_eq_false hlin,Bool.false_and,Bool.and_false] at hb
  cases bp
  all_goals
   try rw [<- hP] at cp
   repeat' (cbv; first|refine .y ?_|refine .n ?_|refine .s (fun hc=>?_) fun hc=>?_|refine .gq cp ?_|refine .a fun v hv=>?_|refine .d ?_|refine .u fun vr vn hvr hvn hvl=>?_|fail)
   all_goals (try cbv)
   all_goals first
    |(
      have hbe:b=false:=hb
      subst hbe; (refine hQ _ ?_; exact ⟨rfl,rfl,rfl,rfl,rfl⟩))
    |(exfalso; omega)
end Go.Ab
