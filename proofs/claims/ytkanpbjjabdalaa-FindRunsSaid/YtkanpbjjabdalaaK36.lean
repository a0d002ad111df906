/-
  The text of a law.
  law14: FindRuns.
-/
import Derived.Test.YtkanpbjjabdalaaK9
import Derived.Test.YtkanpbjjabdalaaK34
import Derived.Test.YtkanpbjjabdalaaK35
set_option linter.all false
namespace Go.Ab
open Go Go.Proofs T
set_option maxRecDepth 1000000
def t8:FnT:=⟨3,[],[],[.t 6],S [g [1,2,3] [100] [100] [p 3 (.box (.t 0) 100),p 6 (B false)],S [g [1,2,3,23] [100] [] [p 11 (.call 30 [] []),p 12 (v 11),p 13 (m 12),q 14 (L 16 3) 13,q 15 (.call 12 [r 14] []) 13,q 16 (v 15) 13,p 17 (o 13 16),p 18 (m 17),q 19 (L 16 3) 18,q 20 (m 1) 18,q 21 (.call 31 [r 19,r 20] []) 18,q 22 (v 21) 18,p 23 (o 18 22)],.cond (.t 23) (S [g [6] [] [] [p 24 (.call 30 [] []),p 6 (m 24)],.ret]) (.skip)],g [1,2,3,7,8,9] [100,101] [101] [p 26 (L 16 3),p 27 (m 1),p 28 (m 2),p 29 (.call 32 [r 26,r 27,r 28] []),p 25 (m 29),p 30 (e 0 25),p 31 (e 1 25),p 32 (e 2 25),p 7 (.alloc [.nils 1,.nils 5,.nils 13,.nils 2,.nils 1,Z,Z,Z,Z,.nils 1,.nils 1,.nils 1,.nils 1,.nils 2,Z,Z] 101 []),u (s 16 7 30),p 8 (m 31),p 9 (m 32)],.fgt false [1,2,3,7,8,9,10] [100,101] (.regd [] [(p 33 (L 16 3),1),(p 34 (m 1),0),(p 35 (.call 25 [r 33,r 34] []),1),(p 36 (h 35),0),(p 37 (f 4 3),0),(p 38 (l 37),1),(p 39 (h 38),0),(p 40 (b .add 36 39),0),(p 10 (m 40),0)]),S [g [1,2,3,7,8,9,10,43] [100,101] [] [p 41 (m 2),p 42 (m 1),p 43 (b .neq 41 42)],.cond (.t 43) (g [1,3,7,8,9,10] [100,101] [] [p 44 (m 10),p 45 (L 16 3),p 46 (m 2),p 47 (.call 25 [r 45,r 46] []),p 48 (h 47),p 49 (b .add 44 48),p 10 (m 49)]) (.skip)],S [g [1,3,7,8,58] [100,101] [] [p 50 (m 9),p 51 (c .neq 50 0),p 52 (m 51),q 53 (m 8) 52,q 54 (c .neq 53 0) 52,q 55 (m 10) 52,q 56 (c .gtr 55 0) 52,q 57 (.eqb true (.t 54) (.t 56)) 52,p 58 (o 52 57)],.cond (.t 58) (S [g [6] [] [] [p 6 (B false)],.ret]) (.skip)],S [g [1,3,7,8,60] [100,101] [] [p 59 (m 8),p 60 (c .eql 59 0)],.cond (.t 60) (S [g [6] [] [] [p 61 (L 16 3),p 62 (L 16 7),p 63 (.call 20 [r 61,r 62] []),p 6 (m 63)],.ret]) (.skip)],S [g [1,3,7,8,86] [100,101] [] [p 64 (m 8),p 65 (c .lss 64 1),p 66 (m 65),q 67 (m 8) 66,q 68 (f 1 3) 66,q 69 (l 68) 66,q 70 (h 69) 66,q 71 (b .gtr 67 70) 66,p 72 (o 66 71),p 73 (m 72),q 74 (L 16 7) 73,q 75 (.call 23 [r 74] []) 73,q 76 (v 75) 73,p 77 (o 73 76),p 78 (m 77),q 79 (f 1 7) 78,q 80 (l 79) 78,q 81 (h 80) 78,q 82 (f 1 3) 78,q 83 (l 82) 78,q 84 (h 83) 78,q 85 (b .neq 81 84) 78,p 86 (o 78 85)],.cond (.t 86) (S [g [6] [] [] [p 6 (B false)],.ret]) (.skip)],.fgt false [6] [] (.regd [] [(p 87 (f 1 3),0),(p 88 (l 87),1),(p 89 (m 8),0),(p 90 (c .sub 89 1),0),(p 91 (x 5 88 90),1),(p 92 (f 2 91),0),(p 93 (l 92),1),(p 94 (c .eql 93 1),0),(p 95 (m 94),0),(w 96 (L 16 7) 95,1),(w 97 (m 8) 95,0),(w 98 (.call 24 [r 96,r 97] []) 95,1),(w 99 (f 2 3) 95,0),(w 100 (l 99) 95,1),(w 101 (m 1) 95,0),(w 102 (c .sub 101 1) 95,0),(w 103 (x 13 100 102) 95,1),(w 104 (f 0 103) 95,0),(w 105 (l 104) 95,1),(w 106 (.build [Z,Z] [(0,1,(i 4)),(1,1,(.t 105))]) 95,0),(w 107 (.eqa false [0,0] (.t 98) (.t 106)) 95,0),(p 108 (n 95 107),0),(p 109 (m 108),0),(w 110 (f 1 7) 109,0),(w 111 (l 110) 109,1),(w 112 (m 8) 109,0),(w 113 (c .sub 112 1) 109,0),(w 114 (x 5 111 113) 109,1),(w 115 (f 4 114) 109,0),(w 116 (l 115) 109,1),(w 117 (f 1 3) 109,0),(w 118 (l 117) 109,1),(w 119 (m 8) 109,0),(w 120 (c .sub 119 1) 109,0),(w 121 (x 5 118 120) 109,1),(w 122 (f 4 121) 109,0),(w 123 (l 122) 109,1),(w 124 (c .add 123 1) 109,0),(w 125 (b .eql 116 124) 109,0),(p 126 (n 109 125),0),(p 6 (m 126),0)]),.ret]⟩
theorem ok8:okFn Try.prog Try.f8 t8=true:=by kernel_rfl
end Go.Ab

namespace Go.Ab
open Go Go.Proofs
set_option maxRecDepth 100000
set_option maxHeartbeats 16000000 in
theorem c8 (s:SD) (hs:Held s) (p v:Int):CallsV Try.prog 8 [.agg (stC s),.int .i64 p,.int .i64 v] (.bool true) [.undef,.undef,.undef] true:=by
  obtain ⟨bs,hbs⟩ : ∃ b,b=smallS s:=⟨_,rfl⟩
  have ks:=c12 s hs bs hbs
  have kf:=c30
  cases bs with
  | false =>
    clear hbs hs
    obtain ⟨prog,gs,ps,ms,gl,c0,c1,c2,c3,w0,w1,w2,w3,ts,ck,pr⟩:=s
    obtain ⟨rp,rg,rq,rm,rl,r0,r1,r2,r3,rt,⟨h_rp,s_rp,l_rp⟩,⟨h_rg,s_rg,l_rg⟩,⟨h_rq,s_rq,l_rq⟩,⟨h_rm,s_rm,l_rm⟩,⟨h_rl,s_rl,l_rl⟩,⟨h_r0,s_r0,l_r0⟩,⟨h_r1,s_r1,l_r1⟩,⟨h_r2,s_r2,l_r2⟩,⟨h_r3,s_r3,l_r3⟩,⟨h_rt,s_rt,l_rt⟩,hst_⟩:=stR prog gs ps ms gl c0 c1 c2 c3 w0 w1 w2 w3 ts ck pr
    rw [hst_] at ks ⊢
    clear hst_ h_rp h_rg h_rq h_rm h_rl h_r0 h_r1 h_r2 h_r3 h_rt l_rp l_rg l_rm l_rq l_rl l_r0 l_r1 l_r2 l_r3 l_rt
    refine callsV_l hD Try.func8 ok8 rfl rfl (by simp only [List.map_cons,List.map_nil,V.sh,V.shL,stL,stN,stK,stH,s_rp,s_rg,s_rq,s_rm,s_rl,s_r0,s_r1,s_r2,s_r3,s_rt]) fun P L Q hP hL hQ=>?_
    rw [← hP] at ks kf
    repeat' (cbv; first|refine .y ?_|refine .n ?_|refine .s (fun hc=>?_) fun hc=>?_|refine .x ?_|refine .r ?_|refine .e fun v hv=>?_|refine .a fun v hv=>?_|refine .d ?_|refine .u fun vr vn hvr hvn hvl=>?_|fail)
    all_goals (try cbv)
    (refine hQ _ ⟨?_,?_,?_,?_,?_⟩ <;> (try cbv) <;> (repeat' first|exact True.intro|exact rfl|assumption|exact FrR.mk rfl|exact FrS.mk rfl|(rw [hL]; rfl)|refine ⟨?_,?_⟩|fail))
  | true =>
  have fs:=fit_small hbs.symm
  obtain ⟨b,hb⟩ : ∃ b,b=looksB s p:=⟨_,rfl⟩
  have kl:=c31 s fs p b hb
  cases b with
  | false =>
    clear hbs hs hb fs
    obtain ⟨prog,gs,ps,ms,gl,c0,c1,c2,c3,w0,w1,w2,w3,ts,ck,pr⟩:=s
    obtain ⟨rp,rg,rq,rm,rl,r0,r1,r2,r3,rt,⟨h_rp,s_rp,l_rp⟩,⟨h_rg,s_rg,l_rg⟩,⟨h_rq,s_rq,l_rq⟩,⟨h_rm,s_rm,l_rm⟩,⟨h_rl,s_rl,l_rl⟩,⟨h_r0,s_r0,l_r0⟩,⟨h_r1,s_r1,l_r1⟩,⟨h_r2,s_r2,l_r2⟩,⟨h_r3,s_r3,l_r3⟩,⟨h_rt,s_rt,l_rt⟩,hst_⟩:=stR prog gs ps ms gl c0 c1 c2 c3 w0 w1 w2 w3 ts ck pr
    rw [hst_] at ks kl ⊢
    clear hst_ h_rp h_rg h_rq h_rm h_rl h_r0 h_r1 h_r2 h_r3 h_rt l_rp l_rg l_rm l_rq l_rl l_r0 l_r1 l_r2 l_r3 l_rt
    refine callsV_l hD Try.func8 ok8 rfl rfl (by simp only [List.map_cons,List.map_nil,V.sh,V.shL,stL,stN,stK,stH,s_rp,s_rg,s_rq,s_rm,s_rl,s_r0,s_r1,s_r2,s_r3,s_rt]) fun P L Q hP hL hQ=>?_
    rw [← hP] at ks kf kl
    repeat' (cbv; first|refine .y ?_|refine .n ?_|refine .s (fun hc=>?_) fun hc=>?_|refine .x ?_|refine .r ?_|refine .e fun v hv=>?_|refine .a fun v hv=>?_|refine .d ?_|refine .u fun vr vn hvr hvn hvl=>?_|fail)
    all_goals (try cbv)
    (refine hQ _ ⟨?_,?_,?_,?_,?_⟩ <;> (try cbv) <;> (repeat' first|exact True.intro|exact rfl|assumption|exact FrR.mk rfl|exact FrS.mk rfl|(rw [hL]; rfl)|refine ⟨?_,?_⟩|fail))
  | true =>
  obtain ⟨hm,p1,p2⟩:=looks_may hb.symm
  have kp:=c32t s fs (low_of hbs.symm hm) p v hb.symm
  have hfa:=runs_facts (v:=v) hb.symm (sq_of hbs.symm)
  have ft:=pick_fit (v:=v) fs hb.symm
  have kq:=c25 s fs p
  have kv:=c25 s fs v
  have qe:=queueS_eq hm (v:=v)
  have hgl:=fs.gl
  have ho:=(may_ok s).1 hm
  have h8:=ho.p8
  have hpr:=ho.pr8
  have hx:=getP_of (s:=s) (p:=p) (by omega)
  unfold queueV at kq kv
  rw [if_neg (by rw [hm]; simp; omega)] at kq
  rw [show s.ps.getD (p.toNat - 1) default=getP s p from rfl] at kq
  obtain ⟨q,hq⟩ : ∃ q,q=queueOf (getP s p):=⟨_,rfl⟩
  have ql:=queueOf_len (getP s p)
  rw [← hq] at kq ql hfa
  obtain ⟨w,hw⟩ : ∃ w,w=queueS s v:=⟨_,rfl⟩
  have wl:w.length≤9:=by
    rw [hw,qe]; split
    · exact queueOf_len _
    · simp
  have kv':∃ V1,CallsV Try.prog 25 [.agg (stC s),.int .i64 v] V1 [.undef,.undef] true∧((V1=.own 1 []∧w=[])∨V1=.sl true 1 (w.map iC)):=by
    by_cases hc:1≤v∧v≤s.pr
    · rw [if_neg (by rw [hm]; simp; omega)] at kv
      rw [if_pos hc] at qe
      refine ⟨_,kv,.inr ?_⟩
      rw [hw,qe]; rfl
    · rw [if_pos (.inl hc)] at kv
      rw [if_neg hc] at qe
      exact ⟨_,kv,.inl ⟨rfl,by rw [hw,qe]⟩⟩
  clear kv qe
  obtain ⟨V1,kv,hV⟩:=kv'
  rw [← hw] at hfa
  obtain ⟨g,hg⟩ : ∃ g,g=(pickS s p v).2:=⟨_,rfl⟩
  obtain ⟨r,hr⟩ : ∃ g,g=(pickS s p v).1:=⟨_,rfl⟩
  rw [← hg,← hr] at kp hfa
  rw [← hr] at ft
  clear hq hg hr hbs hs hb hm hw
  rcases hfa with ⟨rfl,rfl,hq0,hgl0,hw0⟩|⟨g0,hthere,g1,g2,hmt,hlen,hst,hpl,hsq⟩
  · have ke:=c20 r r fs true (by simp)
    clear fs ft ho
    obtain ⟨rw,h_rw⟩ : ∃ r,r=q.map iC:=⟨_,rfl⟩
    have s_rw:V.shR rw=rw:=by rw [h_rw]; exact shR_iC q
    have l_rw:rw.length=q.length:=by simp [h_rw]
    rw [← h_rw] at kq
    have lw0:rw.length=0:=by rw [l_rw,hq0]; rfl
    obtain ⟨prog,gs,ps,ms,gl,c0,c1,c2,c3,w0,w1,w2,w3,ts,ck,pr⟩:=r
    obtain ⟨rp,rg,rq,rm,rl,r0,r1,r2,r3,rt,⟨h_rp,s_rp,l_rp⟩,⟨h_rg,s_rg,l_rg⟩,⟨h_rq,s_rq,l_rq⟩,⟨h_rm,s_rm,l_rm⟩,⟨h_rl,s_rl,l_rl⟩,⟨h_r0,s_r0,l_r0⟩,⟨h_r1,s_r1,l_r1⟩,⟨h_r2,s_r2,l_r2⟩,⟨h_r3,s_r3,l_r3⟩,⟨h_rt,s_rt,l_rt⟩,hst_⟩:=stR prog gs ps ms gl c0 c1 c2 c3 w0 w1 w2 w3 ts ck pr
    dsimp only at hgl0 hgl
    rw [hst_] at ks kl kp kq kv ke ⊢
    rw [stQ_mk,← h_rp,← h_rg,← h_rq,← h_rm,← h_rl,← h_r0,← h_r1,← h_r2,← h_r3,← h_rt] at kp
    have hl2:rl.length=0:=by rw [l_rl,hgl0]; rfl
    clear hst_ h_rp h_rg h_rq h_rm h_rl h_r0 h_r1 h_r2 h_r3 h_rt l_rp l_rg l_rm l_rq l_rl l_r0 l_r1 l_r2 l_r3 l_rt hgl0 hgl hx h8 hpr p1 p2 ql wl h_rw l_rw hq0
    by_cases hvp:v=p
    · subst hvp
      clear kv hV hw0
      refine callsV_l hD Try.func8 ok8 rfl rfl (by simp only [List.map_cons,List.map_nil,V.sh,V.shL,stL,stN,stK,stH,s_rp,s_rg,s_rq,s_rm,s_rl,s_r0,s_r1,s_r2,s_r3,s_rt]) fun P L Q hP hL hQ=>?_
      rw [← hP] at ks kf kl kp kq ke
      repeat' (cbv; first|refine .y ?_|refine .n ?_|refine .s (fun hc=>?_) fun hc=>?_|refine .x ?_|refine .r ?_|refine .e fun v hv=>?_|refine .a fun v hv=>?_|refine .d ?_|refine .u fun vr vn hvr hvn hvl=>?_|fail)
      all_goals (try cbv)
      all_goals first
        | (exfalso; omega)
        | (refine hQ _ ⟨?_,?_,?_,?_,?_⟩ <;> (try cbv) <;> (repeat' first|exact True.intro|exact rfl|assumption|exact FrR.mk rfl|exact FrS.mk rfl|(rw [hL]; rfl)|refine ⟨?_,?_⟩|fail))
    · have hw1:=hw0.resolve_left hvp
      subst hw1
      clear hw0
      rcases hV with ⟨rfl,-⟩|rfl
      · refine callsV_l hD Try.func8 ok8 rfl rfl (by simp only [List.map_cons,List.map_nil,V.sh,V.shL,stL,stN,stK,stH,s_rp,s_rg,s_rq,s_rm,s_rl,s_r0,s_r1,s_r2,s_r3,s_rt]) fun P L Q hP hL hQ=>?_
        rw [← hP] at ks kf kl kp kq kv ke
        repeat' (cbv; first|refine .y ?_|refine .n ?_|refine .s (fun hc=>?_) fun hc=>?_|refine CallQ.go kq ?_|refine CallQ.go kv ?_|refine Lt.ln (k:=0) (by exact ⟨by omega,rfl⟩) ?_|refine .x ?_|refine .r ?_|refine .e fun v hv=>?_|refine .a fun v hv=>?_|refine .d ?_|refine .u fun vr vn hvr hvn hvl=>?_|fail)
        all_goals (try cbv)
        all_goals first
          | (exfalso; omega)
          | (refine hQ _ ⟨?_,?_,?_,?_,?_⟩ <;> (try cbv) <;> (repeat' first|exact True.intro|exact rfl|assumption|exact FrR.mk rfl|exact FrS.mk rfl|(rw [hL]; rfl)|refine ⟨?_,?_⟩|fail))
      · obtain ⟨rv,h_rv,l_rv⟩ : ∃ r:List (List V),([]:List Int).map iC=r∧r.length=0:=⟨_,rfl,rfl⟩
        rw [h_rv] at kv
        clear h_rv
        refine callsV_l hD Try.func8 ok8 rfl rfl (by simp only [List.map_cons,List.map_nil,V.sh,V.shL,stL,stN,stK,stH,s_rp,s_rg,s_rq,s_rm,s_rl,s_r0,s_r1,s_r2,s_r3,s_rt]) fun P L Q hP hL hQ=>?_
        rw [← hP] at ks kf kl kp kq kv ke
        repeat' (cbv; first|refine .y ?_|refine .n ?_|refine .s (fun hc=>?_) fun hc=>?_|refine CallQ.go kq ?_|refine CallQ.go kv ?_|refine .x ?_|refine .r ?_|refine .e fun v hv=>?_|refine .a fun v hv=>?_|refine .d ?_|refine .u fun vr vn hvr hvn hvl=>?_|fail)
        all_goals (try cbv)
        all_goals first
          | (exfalso; omega)
          | (refine hQ _ ⟨?_,?_,?_,?_,?_⟩ <;> (try cbv) <;> (repeat' first|exact True.intro|exact rfl|assumption|exact FrR.mk rfl|exact FrS.mk rfl|(rw [hL]; rfl)|refine ⟨?_,?_⟩|fail))
  · have km:=c23 r ft true hmt.symm
    have kn:=c24 r ft g (4,(getP s p).m) hpl.symm
    have hG:=getG_of (s:=s) (p:=g) (by omega)
    have hT:=getG_of (s:=r) (p:=g) (by omega)
    have hok:=ho.gs _ (List.mem_of_getElem? hG)
    unfold okG at hok
    simp only [Bool.and_eq_true,decide_eq_true_eq] at hok
    have hsb:0≤(getG s g).sq∧(getG s g).sq < 9000000000000000000:=by omega
    obtain ⟨x,hxe⟩ : ∃ x,x=getP s p:=⟨_,rfl⟩
    obtain ⟨y,hye⟩ : ∃ x,x=getG s g:=⟨_,rfl⟩
    obtain ⟨z,hze⟩ : ∃ x,x=getG r g:=⟨_,rfl⟩
    rw [← hxe] at hx kn
    rw [← hye] at hG hst hsq hsb
    rw [← hze] at hT hsq
    have hg2:g.toNat≤s.gs.length:=by omega
    have hpp:p.toNat≤s.ps.length:=by omega
    have gl9:=fs.gs
    clear hxe hye hze fs ft ho hok hpl hmt
    have hth:0 < q.length+s.gl.length∨(v≠p∧0 < w.length):=by
      rcases hthere with h|h|⟨h,h'⟩
      · have:=List.length_pos_iff.2 h; omega
      · have:=List.length_pos_iff.2 h; omega
      · exact .inr ⟨h,List.length_pos_iff.2 h'⟩
    clear hthere
    obtain ⟨xm,xn,⟨b0,b1,b2,b3,b4,b5,b6,b7,xh,xl⟩,xs⟩:=x
    obtain ⟨y0,y1,y2,y3,y4⟩:=y
    obtain ⟨z0,z1,z2,z3,z4⟩:=z
    dsimp only at hst hsq hsb
    subst hst
    obtain ⟨i,hi⟩ : ∃ i:Int,i=g - 1:=⟨_,rfl⟩
    obtain ⟨j,hj⟩ : ∃ i:Int,i=p - 1:=⟨_,rfl⟩
    obtain ⟨rw,h_rw⟩ : ∃ r,r=q.map iC:=⟨_,rfl⟩
    have s_rw:V.shR rw=rw:=by rw [h_rw]; exact shR_iC q
    have l_rw:rw.length=q.length:=by simp [h_rw]
    rw [← h_rw] at kq
    obtain ⟨prog,gs,ps,ms,gl,c0,c1,c2,c3,w0,w1,w2,w3,ts,ck,pr⟩:=s
    obtain ⟨rp,rg,rq,rm,rl,r0,r1,r2,r3,rt,⟨h_rp,s_rp,l_rp⟩,⟨h_rg,s_rg,l_rg⟩,⟨h_rq,s_rq,l_rq⟩,⟨h_rm,s_rm,l_rm⟩,⟨h_rl,s_rl,l_rl⟩,⟨h_r0,s_r0,l_r0⟩,⟨h_r1,s_r1,l_r1⟩,⟨h_r2,s_r2,l_r2⟩,⟨h_r3,s_r3,l_r3⟩,⟨h_rt,s_rt,l_rt⟩,hst_⟩:=stR prog gs ps ms gl c0 c1 c2 c3 w0 w1 w2 w3 ts ck pr
    dsimp only at hG hx hth hgl hlen hg2 hpp h8 hpr p2 gl9
    rw [hst_] at ks kl kp kq kv ⊢
    obtain ⟨uprog,ugs,ups,ums,ugl,uc0,uc1,uc2,uc3,uw0,uw1,uw2,uw3,uts,uck,upr⟩:=r
    obtain ⟨urp,urg,urq,urm,url,ur0,ur1,ur2,ur3,urt,⟨h_urp,s_urp,l_urp⟩,⟨h_urg,s_urg,l_urg⟩,⟨h_urq,s_urq,l_urq⟩,⟨h_urm,s_urm,l_urm⟩,⟨h_url,s_url,l_url⟩,⟨h_ur0,s_ur0,l_ur0⟩,⟨h_ur1,s_ur1,l_ur1⟩,⟨h_ur2,s_ur2,l_ur2⟩,⟨h_ur3,s_ur3,l_ur3⟩,⟨h_urt,s_urt,l_urt⟩,hst_u⟩:=stR uprog ugs ups ums ugl uc0 uc1 uc2 uc3 uw0 uw1 uw2 uw3 uts uck upr
    dsimp only at hT hlen
    rw [hst_u] at km kn
    rw [stQ_mk,← h_urp,← h_urg,← h_urq,← h_urm,← h_url,← h_ur0,← h_ur1,← h_ur2,← h_ur3,← h_urt] at kp
    have gx:rq.getD j.toNat []=pC ⟨xm,xn,⟨b0,b1,b2,b3,b4,b5,b6,b7,xh,xl⟩,xs⟩:=getD_rows (x:=(⟨xm,xn,⟨b0,b1,b2,b3,b4,b5,b6,b7,xh,xl⟩,xs⟩ : PD)) h_rq (by rw [show j.toNat=p.toNat - 1 by omega]; exact hx)
    have gy:rg.getD i.toNat []=gC ⟨y0,y1,1,y3,y4⟩:=getD_rows (x:=(⟨y0,y1,1,y3,y4⟩ : GD)) h_rg (by rw [show i.toNat=g.toNat - 1 by omega]; exact hG)
    have gz:urg.getD i.toNat []=gC ⟨z0,z1,z2,z3,z4⟩:=getD_rows (x:=(⟨z0,z1,z2,z3,z4⟩ : GD)) h_urg (by rw [show i.toNat=g.toNat - 1 by omega]; exact hT)
    clear hst_u h_urp h_urg h_urq h_urm h_url h_ur0 h_ur1 h_ur2 h_ur3 h_urt l_urp l_urq l_urm l_url l_ur0 l_ur1 l_ur2 l_ur3 l_urt
    clear hst_ h_rp h_rg h_rq h_rm h_rl h_r0 h_r1 h_r2 h_r3 h_rt l_rp l_rm l_r0 l_r1 l_r2 l_r3 l_rt hx hG hT h_rw
    by_cases hvp:v=p
    · subst hvp
      clear kv hV
      have hth2:=hth.resolve_right (fun h=>h.1 rfl)
      clear hth
      refine callsV_l hD Try.func8 ok8 rfl rfl (by simp only [List.map_cons,List.map_nil,V.sh,V.shL,stL,stN,stK,stH,s_rp,s_rg,s_rq,s_rm,s_rl,s_r0,s_r1,s_r2,s_r3,s_rt]) fun P L Q hP hL hQ=>?_
      rw [← hP] at ks kf kl kp kq km kn
      repeat' (cbv; first|refine .y ?_|refine .n ?_|refine .s (fun hc=>?_) fun hc=>?_|refine .x ?_|refine .r ?_|refine .e fun v hv=>?_|refine .a fun v hv=>?_|refine .d ?_|refine .u fun vr vn hvr hvn hvl=>?_|fail)
      all_goals (try cbv)
      all_goals first
        | (exfalso; omega)
        | (exact absurd (And.intro rfl (And.intro rfl trivial)) hc)
        | (refine hQ _ ⟨?_,?_,?_,?_,?_⟩ <;> (try cbv) <;> (repeat' first|exact True.intro|exact rfl|assumption|exact FrR.mk rfl|exact FrS.mk rfl|(rw [hL]; rfl)|refine ⟨?_,?_⟩|fail))
    · rcases hV with ⟨rfl,rfl⟩|rfl
      · have hth2:=hth.resolve_right (fun h=>by simp at h)
        clear hth
        refine callsV_l hD Try.func8 ok8 rfl rfl (by simp only [List.map_cons,List.map_nil,V.sh,V.shL,stL,stN,stK,stH,s_rp,s_rg,s_rq,s_rm,s_rl,s_r0,s_r1,s_r2,s_r3,s_rt]) fun P L Q hP hL hQ=>?_
        rw [← hP] at ks kf kl kp kq kv km kn
        repeat' (cbv; first|refine .y ?_|refine .n ?_|refine .s (fun hc=>?_) fun hc=>?_|refine CallQ.go kq ?_|refine CallQ.go kv ?_|refine .x ?_|refine .r ?_|refine .e fun v hv=>?_|refine .a fun v hv=>?_|refine .d ?_|refine .u fun vr vn hvr hvn hvl=>?_|fail)
        all_goals (try cbv)
        all_goals first
          | (exfalso; omega)
          | (exact absurd (And.intro rfl (And.intro rfl trivial)) hc)
          | (refine hQ _ ⟨?_,?_,?_,?_,?_⟩ <;> (try cbv) <;> (repeat' first|exact True.intro|exact rfl|assumption|exact FrR.mk rfl|exact FrS.mk rfl|(rw [hL]; rfl)|refine ⟨?_,?_⟩|fail))
      · have hth3:=hth
        obtain ⟨rv,h_rv⟩ : ∃ r,r=w.map iC:=⟨_,rfl⟩
        have s_rv:V.shR rv=rv:=by rw [h_rv]; exact shR_iC w
        have l_rv:rv.length=w.length:=by simp [h_rv]
        rw [← h_rv] at kv
        clear hth3
        have hth2:0 < q.length+gl.length+w.length:=by omega
        clear hth h_rv
        refine callsV_l hD Try.func8 ok8 rfl rfl (by simp only [List.map_cons,List.map_nil,V.sh,V.shL,stL,stN,stK,stH,s_rp,s_rg,s_rq,s_rm,s_rl,s_r0,s_r1,s_r2,s_r3,s_rt]) fun P L Q hP hL hQ=>?_
        rw [← hP] at ks kf kl kp kq kv km kn
        repeat' (cbv; first|refine .y ?_|refine .n ?_|refine .s (fun hc=>?_) fun hc=>?_|refine CallQ.go kq ?_|refine CallQ.go kv ?_|refine .x ?_|refine .r ?_|refine .e fun v hv=>?_|refine .a fun v hv=>?_|refine .d ?_|refine .u fun vr vn hvr hvn hvl=>?_|fail)
        all_goals (try cbv)
        all_goals first
          | (exfalso; omega)
          | (exact absurd (And.intro rfl (And.intro rfl trivial)) hc)
          | (refine hQ _ ⟨?_,?_,?_,?_,?_⟩ <;> (try cbv) <;> (repeat' first|exact True.intro|exact rfl|assumption|exact FrR.mk rfl|exact FrS.mk rfl|(rw [hL]; rfl)|refine ⟨?_,?_⟩|fail))
end Go.Ab
