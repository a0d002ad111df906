/-
  The text of a law.
  law14: FindSteals.
-/
import Derived.Test.YtkanpbjjabdalaaK9
import Derived.Test.YtkanpbjjabdalaaK34
import Derived.Test.YtkanpbjjabdalaaK35
set_option linter.all false
namespace Go.Ab
open Go Go.Proofs T
set_option maxRecDepth 1000000
def t9:FnT:=⟨3,[],[],[.t 6],S [g [1,2,3] [100] [100] [p 3 (.box (.t 0) 100),p 6 (B false)],S [g [1,2,3,47] [100] [] [p 14 (.call 30 [] []),p 15 (v 14),p 16 (m 15),q 17 (L 16 3) 16,q 18 (.call 12 [r 17] []) 16,q 19 (v 18) 16,p 20 (o 16 19),p 21 (m 20),q 22 (L 16 3) 21,q 23 (m 1) 21,q 24 (.call 31 [r 22,r 23] []) 21,q 25 (v 24) 21,p 26 (o 21 25),p 27 (m 26),q 28 (m 2) 27,q 29 (c .lss 28 1) 27,p 30 (o 27 29),p 31 (m 30),q 32 (m 2) 31,q 33 (f 15 3) 31,q 34 (l 33) 31,q 35 (b .gtr 32 34) 31,p 36 (o 31 35),p 37 (m 36),q 38 (m 2) 37,q 39 (m 1) 37,q 40 (b .eql 38 39) 37,p 41 (o 37 40),p 42 (m 41),q 43 (f 4 3) 42,q 44 (l 43) 42,q 45 (h 44) 42,q 46 (c .gtr 45 0) 42,p 47 (o 42 46)],.cond (.t 47) (S [g [6] [] [] [p 48 (.call 30 [] []),p 6 (m 48)],.ret]) (.skip)],S [g [1,2,3,53] [100] [] [p 49 (L 16 3),p 50 (m 1),p 51 (.call 25 [r 49,r 50] []),p 52 (h 51),p 53 (c .gtr 52 0)],.cond (.t 53) (S [g [6] [] [] [p 6 (B true)],.ret]) (.skip)],g [1,2,3,7] [100] [] [p 54 (f 2 3),p 55 (l 54),p 56 (m 2),p 57 (c .sub 56 1),p 58 (x 13 55 57),p 59 (f 2 58),p 60 (L 10 59),p 61 (.call 27 [r 60] []),p 7 (m 61)],g [1,2,3,7,8,9,10] [100,101] [101] [p 63 (L 16 3),p 64 (m 1),p 65 (m 2),p 66 (.call 32 [r 63,r 64,r 65] []),p 62 (m 66),p 67 (e 0 62),p 68 (e 1 62),p 69 (e 2 62),p 8 (.alloc [.nils 1,.nils 5,.nils 13,.nils 2,.nils 1,Z,Z,Z,Z,.nils 1,.nils 1,.nils 1,.nils 1,.nils 2,Z,Z] 101 []),u (s 16 8 67),p 9 (m 68),p 10 (m 69)],S [g [1,2,3,7,8,9,10,85] [100,101] [] [p 70 (m 10),p 71 (c .neq 70 0),p 72 (m 71),q 73 (f 2 8) 72,q 74 (l 73) 72,q 75 (h 74) 72,q 76 (f 2 3) 72,q 77 (l 76) 72,q 78 (h 77) 72,q 79 (b .neq 75 78) 72,p 80 (o 72 79),p 81 (m 80),q 82 (m 7) 81,q 83 (h 82) 81,q 84 (c .eql 83 0) 81,p 85 (o 81 84)],.cond (.t 85) (S [g [6] [] [] [p 86 (m 10),p 87 (c .eql 86 0),p 88 (m 87),w 89 (m 9) 88,w 90 (f 2 3) 88,w 91 (l 90) 88,w 92 (m 2) 88,w 93 (c .sub 92 1) 88,w 94 (x 13 91 93) 88,w 95 (f 1 94) 88,w 96 (l 95) 88,w 97 (b .eql 89 96) 88,p 98 (n 88 97),p 6 (m 98)],.ret]) (.skip)],.fgt false [2,3,7,8,9,11,12] [100,101] (.regd [] [(p 99 (f 2 8),0),(p 100 (l 99),1),(p 101 (m 1),0),(p 102 (c .sub 101 1),0),(p 103 (x 13 100 102),1),(p 104 (f 2 103),0),(p 105 (L 10 104),1),(p 106 (.call 27 [r 105] []),1),(p 107 (f 2 8),0),(p 108 (l 107),1),(p 109 (m 2),0),(p 110 (c .sub 109 1),0),(p 111 (x 13 108 110),1),(p 112 (f 2 111),0),(p 113 (L 10 112),1),(p 114 (.call 27 [r 113] []),1),(p 11 (m 106),0),(p 12 (m 114),0)]),g [2,3,7,8,12,13] [100,101,112] [112] [p 115 (m 9),p 116 (.bsl 1 [(.t 115)] (some 112)),p 117 (m 11),p 118 (.app 1 8 (.t 116) (.t 117) (some 112)),p 119 (m 12),p 120 (.app 1 8 (.t 118) (.t 119) (some 112)),p 13 (m 120)],.fgt false [6] [] (.regd [] [(p 121 (m 13),0),(p 122 (m 7),0),(p 123 (.call 26 [r 121,r 122] []),1),(p 124 (m 123),0),(w 125 (m 12) 124,0),(w 126 (h 125) 124,0),(w 127 (m 7) 124,0),(w 128 (h 127) 124,0),(w 129 (c .quo 128 2) 124,0),(w 130 (b .eql 126 129) 124,0),(p 131 (n 124 130),0),(p 132 (m 131),0),(w 133 (f 2 8) 132,0),(w 134 (l 133) 132,1),(w 135 (m 2) 132,0),(w 136 (c .sub 135 1) 132,0),(w 137 (x 13 134 136) 132,1),(w 138 (f 1 137) 132,0),(w 139 (l 138) 132,1),(w 140 (f 2 3) 132,0),(w 141 (l 140) 132,1),(w 142 (m 2) 132,0),(w 143 (c .sub 142 1) 132,0),(w 144 (x 13 141 143) 132,1),(w 145 (f 1 144) 132,0),(w 146 (l 145) 132,1),(w 147 (b .eql 139 146) 132,0),(p 148 (n 132 147),0),(p 6 (m 148),0)]),.ret]⟩
theorem ok9:okFn Try.prog Try.f9 t9=true:=by kernel_rfl
end Go.Ab

namespace Go.Ab
open Go Go.Proofs
set_option maxRecDepth 100000
theorem AppL.kn {n bytes m:Nat} {rs ys rs':List (List V)} {K:List (List V)→Nat→Prop} (h:rs ++ ys=rs') (hm:m=rs'.length) (k:K rs' m) (h1:n=rs.length:=by first|rfl|assumption|omega)
    (h2:(rs.length+ys.length) * bytes≤140737488355328:=by first|omega|(simp only [List.length_cons,List.length_nil]; omega)):AppL n bytes (fun _=>rs) (fun _=>ys) K :=
  .to h1 h2 fun v w a b _=>by subst h; subst a; subst hm; subst b; exact k
set_option maxHeartbeats 16000000 in
theorem c9 (s:SD) (hs:Held s) (p v:Int):CallsV Try.prog 9 [.agg (stC s),.int .i64 p,.int .i64 v] (.bool true) [.undef,.undef,.undef] true:=by
  obtain ⟨bs,hbs⟩ : ∃ b,b=smallS s:=⟨_,rfl⟩
  have ks:=c12 s hs bs hbs
  have kf:=c30
  cases bs with
  | false =>
    clear hbs hs
    obtain ⟨prog,gs,ps,ms,gl,c0,c1,c2,c3,w0,w1,w2,w3,ts,ck,pr⟩:=s
    obtain ⟨rp,rg,rq,rm,rl,r0,r1,r2,r3,rt,⟨h_rp,s_rp,l_rp⟩,⟨h_rg,s_rg,l_rg⟩,⟨h_rq,s_rq,l_rq⟩,⟨h_rm,s_rm,l_rm⟩,⟨h_rl,s_rl,l_rl⟩,⟨h_r0,s_r0,l_r0⟩,⟨h_r1,s_r1,l_r1⟩,⟨h_r2,s_r2,l_r2⟩,⟨h_r3,s_r3,l_r3⟩,⟨h_rt,s_rt,l_rt⟩,hst_⟩:=stR prog gs ps ms gl c0 c1 c2 c3 w0 w1 w2 w3 ts ck pr
    rw [hst_] at ks ⊢
    clear hst_ h_rp h_rg h_rq h_rm h_rl h_r0 h_r1 h_r2 h_r3 h_rt l_rp l_rg l_rm l_rq l_rl l_r0 l_r1 l_r2 l_r3 l_rt
    refine callsV_l hD Try.func9 ok9 rfl rfl (by simp only [List.map_cons,List.map_nil,V.sh,V.shL,stL,stN,stK,stH,s_rp,s_rg,s_rq,s_rm,s_rl,s_r0,s_r1,s_r2,s_r3,s_rt]) fun P L Q hP hL hQ=>?_
    rw [← hP] at ks kf
    repeat' (cbv; first|refine .y ?_|refine .n ?_|refine .s (fun hc=>?_) fun hc=>?_|refine .x ?_|refine .r ?_|refine .e fun v hv=>?_|refine .a fun v hv=>?_|refine .d ?_|refine .u fun vr vn hvr hvn hvl=>?_|fail)
    all_goals (try cbv)
    (refine hQ _ ⟨?_,?_,?_,?_,?_⟩ <;> (try cbv) <;> (repeat' first|exact True.intro|exact rfl|assumption|exact FrR.mk rfl|exact FrS.mk rfl|(rw [hL]; rfl)|refine ⟨?_,?_⟩|fail))
  | true =>
  have fs:=fit_small hbs.symm
  obtain ⟨b,hb⟩ : ∃ b,b=looksB s p:=⟨_,rfl⟩
  have kl:=c31 s fs p b hb
  cases b with
  | false =>
    clear hbs hs hb fs
    obtain ⟨prog,gs,ps,ms,gl,c0,c1,c2,c3,w0,w1,w2,w3,ts,ck,pr⟩:=s
    obtain ⟨rp,rg,rq,rm,rl,r0,r1,r2,r3,rt,⟨h_rp,s_rp,l_rp⟩,⟨h_rg,s_rg,l_rg⟩,⟨h_rq,s_rq,l_rq⟩,⟨h_rm,s_rm,l_rm⟩,⟨h_rl,s_rl,l_rl⟩,⟨h_r0,s_r0,l_r0⟩,⟨h_r1,s_r1,l_r1⟩,⟨h_r2,s_r2,l_r2⟩,⟨h_r3,s_r3,l_r3⟩,⟨h_rt,s_rt,l_rt⟩,hst_⟩:=stR prog gs ps ms gl c0 c1 c2 c3 w0 w1 w2 w3 ts ck pr
    rw [hst_] at ks kl ⊢
    clear hst_ h_rp h_rg h_rq h_rm h_rl h_r0 h_r1 h_r2 h_r3 h_rt l_rp l_rg l_rm l_rq l_rl l_r0 l_r1 l_r2 l_r3 l_rt
    refine callsV_l hD Try.func9 ok9 rfl rfl (by simp only [List.map_cons,List.map_nil,V.sh,V.shL,stL,stN,stK,stH,s_rp,s_rg,s_rq,s_rm,s_rl,s_r0,s_r1,s_r2,s_r3,s_rt]) fun P L Q hP hL hQ=>?_
    rw [← hP] at ks kf kl
    repeat' (cbv; first|refine .y ?_|refine .n ?_|refine .s (fun hc=>?_) fun hc=>?_|refine .x ?_|refine .r ?_|refine .e fun v hv=>?_|refine .a fun v hv=>?_|refine .d ?_|refine .u fun vr vn hvr hvn hvl=>?_|fail)
    all_goals (try cbv)
    (refine hQ _ ⟨?_,?_,?_,?_,?_⟩ <;> (try cbv) <;> (repeat' first|exact True.intro|exact rfl|assumption|exact FrR.mk rfl|exact FrS.mk rfl|(rw [hL]; rfl)|refine ⟨?_,?_⟩|fail))
  | true =>
  obtain ⟨hm,p1,p2⟩:=looks_may hb.symm
  have hgl:=fs.gl
  by_cases hc:1≤v∧v≤s.pr∧v≠p∧s.gl=[]
  · obtain ⟨v1,v2,hvp,hg0⟩:=hc
    have kp:=c32t s fs (low_of hbs.symm hm) p v hb.symm
    have kq:=c25 s fs p
    have ho:=(may_ok s).1 hm
    have h8:=ho.p8
    have hpr:=ho.pr8
    unfold queueV at kq
    rw [if_neg (by rw [hm]; simp; omega)] at kq
    rw [show s.ps.getD (p.toNat - 1) default=getP s p from rfl] at kq
    have ql:=queueOf_len (getP s p)
    by_cases hq0:queueOf (getP s p)=[]
    · rw [hq0] at kq
      obtain ⟨hpl,hfa⟩:=steals_facts hb.symm v1 v2 hvp hg0 hq0
      have hv:=getP_of (s:=s) (p:=v) (by omega)
      obtain ⟨g,hg⟩ : ∃ g,g=(pickS s p v).2:=⟨_,rfl⟩
      obtain ⟨r,hr⟩ : ∃ g,g=(pickS s p v).1:=⟨_,rfl⟩
      rw [← hg,← hr] at kp hfa
      rw [← hr] at hpl
      obtain ⟨x,hxe⟩ : ∃ x,x=getP s v:=⟨_,rfl⟩
      rw [← hxe] at hv hfa
      have k1:=r_rList x.r
      obtain ⟨l,hl⟩ : ∃ l,l=listR x.r:=⟨_,rfl⟩
      have ll:=listR_len x.r
      rw [← hl] at k1 hfa ll
      obtain ⟨j,hj⟩ : ∃ i:Int,i=v - 1:=⟨_,rfl⟩
      rcases hfa with ⟨hl0,hgx⟩|⟨hl0,hall,hhalf,hnx⟩
      · rw [hl0] at k1
        clear hxe hl hl0 hr hg hbs hb hm hq0 ho hs fs
        obtain ⟨xm,xn,⟨b0,b1,b2,b3,b4,b5,b6,b7,xh,xl⟩,xs⟩:=x
        obtain ⟨prog,gs,ps,ms,gl,c0,c1,c2,c3,w0,w1,w2,w3,ts,ck,pr⟩:=s
        obtain ⟨rp,rg,rq,rm,rl,r0,r1,r2,r3,rt,⟨h_rp,s_rp,l_rp⟩,⟨h_rg,s_rg,l_rg⟩,⟨h_rq,s_rq,l_rq⟩,⟨h_rm,s_rm,l_rm⟩,⟨h_rl,s_rl,l_rl⟩,⟨h_r0,s_r0,l_r0⟩,⟨h_r1,s_r1,l_r1⟩,⟨h_r2,s_r2,l_r2⟩,⟨h_r3,s_r3,l_r3⟩,⟨h_rt,s_rt,l_rt⟩,hst_⟩:=stR prog gs ps ms gl c0 c1 c2 c3 w0 w1 w2 w3 ts ck pr
        dsimp only at hv hgl hpl h8 v2 hpr p2 hg0 hgx k1
        rw [hst_] at ks kl kp kq ⊢
        obtain ⟨uprog,ugs,ups,ums,ugl,uc0,uc1,uc2,uc3,uw0,uw1,uw2,uw3,uts,uck,upr⟩:=r
        obtain ⟨urp,urg,urq,urm,url,ur0,ur1,ur2,ur3,urt,⟨h_urp,s_urp,l_urp⟩,⟨h_urg,s_urg,l_urg⟩,⟨h_urq,s_urq,l_urq⟩,⟨h_urm,s_urm,l_urm⟩,⟨h_url,s_url,l_url⟩,⟨h_ur0,s_ur0,l_ur0⟩,⟨h_ur1,s_ur1,l_ur1⟩,⟨h_ur2,s_ur2,l_ur2⟩,⟨h_ur3,s_ur3,l_ur3⟩,⟨h_urt,s_urt,l_urt⟩,hst_u⟩:=stR uprog ugs ups ums ugl uc0 uc1 uc2 uc3 uw0 uw1 uw2 uw3 uts uck upr
        dsimp only at hpl
        rw [stQ_mk,← h_urp,← h_urg,← h_urq,← h_urm,← h_url,← h_ur0,← h_ur1,← h_ur2,← h_ur3,← h_urt] at kp
        have gx:rq.getD j.toNat []=pC ⟨xm,xn,⟨b0,b1,b2,b3,b4,b5,b6,b7,xh,xl⟩,xs⟩:=getD_rows (x:=(⟨xm,xn,⟨b0,b1,b2,b3,b4,b5,b6,b7,xh,xl⟩,xs⟩ : PD)) h_rq (by rw [show j.toNat=v.toNat - 1 by omega]; exact hv)
        have hl2:rl.length=0:=by rw [l_rl,hg0]; rfl
        clear hst_u h_urp h_urg h_urq h_urm h_url h_ur0 h_ur1 h_ur2 h_ur3 h_urt l_urp l_urg l_urm l_url l_ur0 l_ur1 l_ur2 l_ur3 l_urt
        clear hst_ h_rp h_rg h_rq h_rm h_rl h_r0 h_r1 h_r2 h_r3 h_rt l_rp l_rg l_rm l_rl l_r0 l_r1 l_r2 l_r3 l_rt hg0 hgl hv ql
        refine callsV_l hD Try.func9 ok9 rfl rfl (by simp only [List.map_cons,List.map_nil,V.sh,V.shL,stL,stN,stK,stH,s_rp,s_rg,s_rq,s_rm,s_rl,s_r0,s_r1,s_r2,s_r3,s_rt]) fun P L Q hP hL hQ=>?_
        rw [← hP] at ks kf kl kp kq k1
        repeat' (cbv; first|refine .y ?_|refine .n ?_|refine .s (fun hc=>?_) fun hc=>?_|refine .x ?_|refine .r ?_|refine .e fun v hv=>?_|refine .a fun v hv=>?_|refine .d ?_|refine .u fun vr vn hvr hvn hvl=>?_|fail)
        all_goals (try cbv)
        all_goals first
          | (exfalso; omega)
          | (exact absurd (And.intro rfl (And.intro rfl trivial)) hc)
          | (refine hQ _ ⟨?_,?_,?_,?_,?_⟩ <;> (try cbv) <;> (repeat' first|exact True.intro|exact rfl|assumption|exact FrR.mk rfl|exact FrS.mk rfl|(rw [hL]; rfl)|refine ⟨?_,?_⟩|fail))
      · have hl1:=List.length_pos_iff.2 hl0
        have hxp:=getP_of (s:=r) (p:=p) (by omega)
        have hxv:=getP_of (s:=r) (p:=v) (by omega)
        obtain ⟨y,hye⟩ : ∃ x,x=getP r p:=⟨_,rfl⟩
        obtain ⟨z,hze⟩ : ∃ x,x=getP r v:=⟨_,rfl⟩
        rw [← hye] at hxp hall
        rw [← hze] at hxv hall hhalf hnx
        have k2:=r_rList y.r
        have k3:=r_rList z.r
        have l2:=listR_len y.r
        have l3:=listR_len z.r
        obtain ⟨mn,hmn⟩ : ∃ l,l=listR y.r:=⟨_,rfl⟩
        obtain ⟨lf,hlf⟩ : ∃ l,l=listR z.r:=⟨_,rfl⟩
        rw [← hmn] at k2 l2 hall
        rw [← hlf] at k3 l3 hall hhalf
        have kI:=c26 l l (by omega) true (by simp)
        clear hxe hl hl0 hr hg hbs hb hm hq0 ho hs fs hye hze hmn hlf
        obtain ⟨ra,h_ra⟩ : ∃ r,r=l.map iC:=⟨_,rfl⟩
        have s_ra:V.shR ra=ra:=by rw [h_ra]; exact shR_iC l
        have l_ra:ra.length=l.length:=by simp [h_ra]
        obtain ⟨rb,h_rb⟩ : ∃ r,r=mn.map iC:=⟨_,rfl⟩
        have s_rb:V.shR rb=rb:=by rw [h_rb]; exact shR_iC mn
        have l_rb:rb.length=mn.length:=by simp [h_rb]
        obtain ⟨rc,h_rc⟩ : ∃ r,r=lf.map iC:=⟨_,rfl⟩
        have s_rc:V.shR rc=rc:=by rw [h_rc]; exact shR_iC lf
        have l_rc:rc.length=lf.length:=by simp [h_rc]
        obtain ⟨rd,hrd⟩ : ∃ r:List (List V),r=[[.int .i64 g]] ++ rb:=⟨_,rfl⟩
        have e1:[[.int .i64 g]] ++ rb=rd:=hrd.symm
        have e2:rd ++ rc=ra:=by rw [hrd,h_ra,hall,h_rb,h_rc]; simp [iC]
        obtain ⟨m1,hm1⟩ : ∃ m:Nat,m=rd.length:=⟨_,rfl⟩
        obtain ⟨m2,hm2⟩ : ∃ m:Nat,m=ra.length:=⟨_,rfl⟩
        have hm1':rd.length=rb.length+1:=by rw [hrd]; simp
        rw [← h_ra] at k1 kI
        rw [← h_rb] at k2
        rw [← h_rc] at k3
        clear hrd h_ra h_rb h_rc hall
        obtain ⟨xm,xn,⟨b0,b1,b2,b3,b4,b5,b6,b7,xh,xl⟩,xs⟩:=x
        obtain ⟨ym,yn,⟨c0',c1',c2',c3',c4,c5,c6,c7,yh,yl⟩,ys⟩:=y
        obtain ⟨zm,zn,⟨d0,d1,d2,d3,d4,d5,d6,d7,zh,zl⟩,zs⟩:=z
        obtain ⟨i,hi⟩ : ∃ i:Int,i=p - 1:=⟨_,rfl⟩
        obtain ⟨prog,gs,ps,ms,gl,c0,c1,c2,c3,w0,w1,w2,w3,ts,ck,pr⟩:=s
        obtain ⟨rp,rg,rq,rm,rl,r0,r1,r2,r3,rt,⟨h_rp,s_rp,l_rp⟩,⟨h_rg,s_rg,l_rg⟩,⟨h_rq,s_rq,l_rq⟩,⟨h_rm,s_rm,l_rm⟩,⟨h_rl,s_rl,l_rl⟩,⟨h_r0,s_r0,l_r0⟩,⟨h_r1,s_r1,l_r1⟩,⟨h_r2,s_r2,l_r2⟩,⟨h_r3,s_r3,l_r3⟩,⟨h_rt,s_rt,l_rt⟩,hst_⟩:=stR prog gs ps ms gl c0 c1 c2 c3 w0 w1 w2 w3 ts ck pr
        dsimp only at hv hgl hpl h8 v2 hpr p2 hg0 hnx k1 k2 k3
        rw [hst_] at ks kl kp kq ⊢
        obtain ⟨uprog,ugs,ups,ums,ugl,uc0,uc1,uc2,uc3,uw0,uw1,uw2,uw3,uts,uck,upr⟩:=r
        obtain ⟨urp,urg,urq,urm,url,ur0,ur1,ur2,ur3,urt,⟨h_urp,s_urp,l_urp⟩,⟨h_urg,s_urg,l_urg⟩,⟨h_urq,s_urq,l_urq⟩,⟨h_urm,s_urm,l_urm⟩,⟨h_url,s_url,l_url⟩,⟨h_ur0,s_ur0,l_ur0⟩,⟨h_ur1,s_ur1,l_ur1⟩,⟨h_ur2,s_ur2,l_ur2⟩,⟨h_ur3,s_ur3,l_ur3⟩,⟨h_urt,s_urt,l_urt⟩,hst_u⟩:=stR uprog ugs ups ums ugl uc0 uc1 uc2 uc3 uw0 uw1 uw2 uw3 uts uck upr
        dsimp only at hpl hxp hxv
        rw [stQ_mk,← h_urp,← h_urg,← h_urq,← h_urm,← h_url,← h_ur0,← h_ur1,← h_ur2,← h_ur3,← h_urt] at kp
        have gx:rq.getD j.toNat []=pC ⟨xm,xn,⟨b0,b1,b2,b3,b4,b5,b6,b7,xh,xl⟩,xs⟩:=getD_rows (x:=(⟨xm,xn,⟨b0,b1,b2,b3,b4,b5,b6,b7,xh,xl⟩,xs⟩ : PD)) h_rq (by rw [show j.toNat=v.toNat - 1 by omega]; exact hv)
        have gy:urq.getD i.toNat []=pC ⟨ym,yn,⟨c0',c1',c2',c3',c4,c5,c6,c7,yh,yl⟩,ys⟩:=getD_rows (x:=(⟨ym,yn,⟨c0',c1',c2',c3',c4,c5,c6,c7,yh,yl⟩,ys⟩ : PD)) h_urq (by rw [show i.toNat=p.toNat - 1 by omega]; exact hxp)
        have gz:urq.getD j.toNat []=pC ⟨zm,zn,⟨d0,d1,d2,d3,d4,d5,d6,d7,zh,zl⟩,zs⟩:=getD_rows (x:=(⟨zm,zn,⟨d0,d1,d2,d3,d4,d5,d6,d7,zh,zl⟩,zs⟩ : PD)) h_urq (by rw [show j.toNat=v.toNat - 1 by omega]; exact hxv)
        have hl2:rl.length=0:=by rw [l_rl,hg0]; rfl
        clear hst_u h_urp h_urg h_urq h_urm h_url h_ur0 h_ur1 h_ur2 h_ur3 h_urt l_urp l_urg l_urm l_url l_ur0 l_ur1 l_ur2 l_ur3 l_urt
        clear hst_ h_rp h_rg h_rq h_rm h_rl h_r0 h_r1 h_r2 h_r3 h_rt l_rp l_rg l_rm l_rl l_r0 l_r1 l_r2 l_r3 l_rt hg0 hgl hv ql hxp hxv
        refine callsV_l hD Try.func9 ok9 rfl rfl (by simp only [List.map_cons,List.map_nil,V.sh,V.shL,stL,stN,stK,stH,s_rp,s_rg,s_rq,s_rm,s_rl,s_r0,s_r1,s_r2,s_r3,s_rt]) fun P L Q hP hL hQ=>?_
        rw [← hP] at ks kf kl kp kq k1 k2 k3 kI
        repeat' (cbv; first|refine .y ?_|refine .n ?_|refine .s (fun hc=>?_) fun hc=>?_|refine CallQ.go k1 ?_|refine CallQ.go k2 ?_|refine CallQ.go k3 ?_|refine AppL.kn (by assumption) (by assumption) ?_|refine .x ?_|refine .r ?_|refine .e fun v hv=>?_|refine .a fun v hv=>?_|refine .d ?_|refine .u fun vr vn hvr hvn hvl=>?_|fail)
        all_goals (try cbv)
        all_goals first
          | (exfalso; omega)
          | (exact absurd (And.intro rfl (And.intro rfl trivial)) hc)
          | (refine hQ _ ⟨?_,?_,?_,?_,?_⟩ <;> (try cbv) <;> (repeat' first|exact True.intro|exact rfl|assumption|exact FrR.mk rfl|exact FrS.mk rfl|(rw [hL]; rfl)|refine ⟨?_,?_⟩|fail))
    · have hq1:=List.length_pos_iff.2 hq0
      obtain ⟨q,hq⟩ : ∃ q,q=queueOf (getP s p):=⟨_,rfl⟩
      rw [← hq] at kq hq1
      clear hq hq0 hbs hb hm ho hs fs kp ql
      obtain ⟨rw,h_rw⟩ : ∃ r,r=q.map iC:=⟨_,rfl⟩
      have s_rw:V.shR rw=rw:=by rw [h_rw]; exact shR_iC q
      have l_rw:rw.length=q.length:=by simp [h_rw]
      rw [← h_rw] at kq
      obtain ⟨prog,gs,ps,ms,gl,c0,c1,c2,c3,w0,w1,w2,w3,ts,ck,pr⟩:=s
      obtain ⟨rp,rg,rq,rm,rl,r0,r1,r2,r3,rt,⟨h_rp,s_rp,l_rp⟩,⟨h_rg,s_rg,l_rg⟩,⟨h_rq,s_rq,l_rq⟩,⟨h_rm,s_rm,l_rm⟩,⟨h_rl,s_rl,l_rl⟩,⟨h_r0,s_r0,l_r0⟩,⟨h_r1,s_r1,l_r1⟩,⟨h_r2,s_r2,l_r2⟩,⟨h_r3,s_r3,l_r3⟩,⟨h_rt,s_rt,l_rt⟩,hst_⟩:=stR prog gs ps ms gl c0 c1 c2 c3 w0 w1 w2 w3 ts ck pr
      dsimp only at hgl hg0 v2
      rw [hst_] at ks kl kq ⊢
      have hl2:rl.length=0:=by rw [l_rl,hg0]; rfl
      clear hst_ h_rp h_rg h_rq h_rm h_rl h_r0 h_r1 h_r2 h_r3 h_rt l_rp l_rg l_rm l_rq l_rl l_r0 l_r1 l_r2 l_r3 l_rt hg0 hgl h_rw h8 hpr
      refine callsV_l hD Try.func9 ok9 rfl rfl (by simp only [List.map_cons,List.map_nil,V.sh,V.shL,stL,stN,stK,stH,s_rp,s_rg,s_rq,s_rm,s_rl,s_r0,s_r1,s_r2,s_r3,s_rt]) fun P L Q hP hL hQ=>?_
      rw [← hP] at ks kf kl kq
      repeat' (cbv; first|refine .y ?_|refine .n ?_|refine .s (fun hc=>?_) fun hc=>?_|refine .x ?_|refine .r ?_|refine .e fun v hv=>?_|refine .a fun v hv=>?_|refine .d ?_|refine .u fun vr vn hvr hvn hvl=>?_|fail)
      all_goals (try cbv)
      all_goals first
        | (exfalso; omega)
        | (exact absurd (And.intro rfl (And.intro rfl trivial)) hc)
        | (refine hQ _ ⟨?_,?_,?_,?_,?_⟩ <;> (try cbv) <;> (repeat' first|exact True.intro|exact rfl|assumption|exact FrR.mk rfl|exact FrS.mk rfl|(rw [hL]; rfl)|refine ⟨?_,?_⟩|fail))
  · have hc':v < 1∨s.pr < v∨v=p∨0 < s.gl.length:=by
      by_cases h:s.gl=[]
      · simp only [h,and_true,List.length_nil,Nat.lt_irrefl,or_false] at hc ⊢; omega
      · have:=List.length_pos_iff.2 h; omega
    clear hc hm p1 p2 hb hbs fs hs
    obtain ⟨prog,gs,ps,ms,gl,c0,c1,c2,c3,w0,w1,w2,w3,ts,ck,pr⟩:=s
    obtain ⟨rp,rg,rq,rm,rl,r0,r1,r2,r3,rt,⟨h_rp,s_rp,l_rp⟩,⟨h_rg,s_rg,l_rg⟩,⟨h_rq,s_rq,l_rq⟩,⟨h_rm,s_rm,l_rm⟩,⟨h_rl,s_rl,l_rl⟩,⟨h_r0,s_r0,l_r0⟩,⟨h_r1,s_r1,l_r1⟩,⟨h_r2,s_r2,l_r2⟩,⟨h_r3,s_r3,l_r3⟩,⟨h_rt,s_rt,l_rt⟩,hst_⟩:=stR prog gs ps ms gl c0 c1 c2 c3 w0 w1 w2 w3 ts ck pr
    dsimp only at hc' hgl
    rw [← l_rl] at hc' hgl
    rw [hst_] at ks kl ⊢
    clear hst_ h_rp h_rg h_rq h_rm h_rl h_r0 h_r1 h_r2 h_r3 h_rt l_rp l_rg l_rm l_rq l_rl l_r0 l_r1 l_r2 l_r3 l_rt
    refine callsV_l hD Try.func9 ok9 rfl rfl (by simp only [List.map_cons,List.map_nil,V.sh,V.shL,stL,stN,stK,stH,s_rp,s_rg,s_rq,s_rm,s_rl,s_r0,s_r1,s_r2,s_r3,s_rt]) fun P L Q hP hL hQ=>?_
    rw [← hP] at ks kf kl
    repeat' (cbv; first|refine .y ?_|refine .n ?_|refine .s (fun hc=>?_) fun hc=>?_|refine .x ?_|refine .r ?_|refine .e fun v hv=>?_|refine .a fun v hv=>?_|refine .d ?_|refine .u fun vr vn hvr hvn hvl=>?_|fail)
    all_goals (try cbv)
    all_goals first
      | (exfalso; omega)
      | (exact absurd (And.intro rfl (And.intro rfl trivial)) hc)
      | (refine hQ _ ⟨?_,?_,?_,?_,?_⟩ <;> (try cbv) <;> (repeat' first|exact True.intro|exact rfl|assumption|exact FrR.mk rfl|exact FrS.mk rfl|(rw [hL]; rfl)|refine ⟨?_,?_⟩|fail))
end Go.Ab
