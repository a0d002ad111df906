/-
  The text of a law.
  law14: FindStarts.
-/
import Derived.Test.YtkanpbjjabdalaaK9
import Derived.Test.YtkanpbjjabdalaaK31
import Derived.Test.YtkanpbjjabdalaaK34
import Derived.Test.YtkanpbjjabdalaaK35
set_option linter.all false
namespace Go.Ab
open Go Go.Proofs T
set_option maxRecDepth 1000000
def t11:FnT:=⟨3,[],[],[.t 6],S [g [1,2,3] [100] [100] [p 3 (.box (.t 0) 100),p 6 (B false)],S [g [1,2,3,33] [100] [] [p 10 (.call 30 [] []),p 11 (v 10),p 12 (m 11),q 13 (L 16 3) 12,q 14 (.call 12 [r 13] []) 12,q 15 (v 14) 12,p 16 (o 12 15),p 17 (m 16),q 18 (L 16 3) 17,q 19 (m 1) 17,q 20 (.call 31 [r 18,r 19] []) 17,q 21 (v 20) 17,p 22 (o 17 21),p 23 (m 22),q 24 (m 2) 23,q 25 (c .lss 24 1) 23,p 26 (o 23 25),p 27 (m 26),q 28 (m 2) 27,q 29 (f 1 3) 27,q 30 (l 29) 27,q 31 (h 30) 27,q 32 (b .gtr 28 31) 27,p 33 (o 27 32)],.cond (.t 33) (S [g [6] [] [] [p 34 (.call 30 [] []),p 6 (m 34)],.ret]) (.skip)],g [1,2,3,7,8] [100,101] [101] [p 36 (L 16 3),p 37 (m 1),p 38 (m 2),p 39 (.call 33 [r 36,r 37,r 38] []),p 35 (m 39),p 40 (e 0 35),p 41 (e 1 35),p 7 (.alloc [.nils 1,.nils 5,.nils 13,.nils 2,.nils 1,Z,Z,Z,Z,.nils 1,.nils 1,.nils 1,.nils 1,.nils 2,Z,Z] 101 []),u (s 16 7 40),p 8 (m 41)],S [g [1,2,3,7,8,49] [100,101] [] [p 42 (f 1 3),p 43 (l 42),p 44 (m 2),p 45 (c .sub 44 1),p 46 (x 5 43 45),p 47 (f 2 46),p 48 (l 47),p 49 (c .neq 48 1)],.cond (.t 49) (S [g [6] [] [] [p 50 (m 8),p 51 (c .eql 50 1),p 6 (m 51)],.ret]) (.skip)],S [g [1,2,3,7,67] [100,101] [] [p 52 (m 8),p 53 (c .neq 52 0),p 54 (m 53),q 55 (L 16 7) 54,q 56 (.call 23 [r 55] []) 54,q 57 (v 56) 54,p 58 (o 54 57),p 59 (m 58),q 60 (f 1 7) 59,q 61 (l 60) 59,q 62 (h 61) 59,q 63 (f 1 3) 59,q 64 (l 63) 59,q 65 (h 64) 59,q 66 (b .neq 62 65) 59,p 67 (o 59 66)],.cond (.t 67) (S [g [6] [] [] [p 6 (B false)],.ret]) (.skip)],S [g [1,2,3,7,9] [100,101] [] [p 9 (M 1)],.blk 0 (.loop [1,2,3,7,9] [100,101] (S [S [g [1,2,3,7,9,72] [100,101] [] [p 68 (m 9),p 69 (f 1 3),p 70 (l 69),p 71 (h 70),p 72 (b .leq 68 71)],.cond (.t 72) (.skip) (.exit 0)],.blk 1 (S [.fgt false [1,2,3,7,9,86] [100,101] (.regd [] [(p 75 (m 9),0),(p 76 (m 2),0),(p 77 (b .neq 75 76),0),(p 78 (m 77),0),(w 79 (L 16 3) 78,1),(w 80 (m 9) 78,0),(w 81 (.call 24 [r 79,r 80] []) 78,1),(w 82 (L 16 7) 78,1),(w 83 (m 9) 78,0),(w 84 (.call 24 [r 82,r 83] []) 78,1),(w 85 (.eqa true [0,0] (.t 81) (.t 84)) 78,0),(p 86 (n 78 85),0)]),.cond (.t 86) (S [g [6] [] [] [p 6 (B false)],.ret]) (.skip)]),g [1,2,3,7,9] [100,101] [] [p 73 (m 9),p 74 (c .add 73 1),p 9 (m 74)]]))],.fgt false [6] [] (.regd [] [(p 87 (L 16 7),1),(p 88 (m 2),0),(p 89 (.call 24 [r 87,r 88] []),1),(p 90 (f 2 3),0),(p 91 (l 90),1),(p 92 (m 1),0),(p 93 (c .sub 92 1),0),(p 94 (x 13 91 93),1),(p 95 (f 0 94),0),(p 96 (l 95),1),(p 97 (.build [Z,Z] [(0,1,(i 4)),(1,1,(.t 96))]),0),(p 98 (.eqa false [0,0] (.t 89) (.t 97)),0),(p 6 (m 98),0)]),.ret]⟩
theorem ok11:okFn Try.prog Try.f11 t11=true:=by kernel_rfl
end Go.Ab

namespace Go.Ab
open Go Go.Proofs
set_option maxRecDepth 100000
set_option maxHeartbeats 16000000 in
theorem c11 (s:SD) (hs:Held s) (p g:Int):CallsV Try.prog 11 [.agg (stC s),.int .i64 p,.int .i64 g] (.bool true) [.undef,.undef,.undef] true:=by
  obtain ⟨bs,hbs⟩ : ∃ b,b=smallS s:=⟨_,rfl⟩
  have ks:=c12 s hs bs hbs
  have kf:=c30
  cases bs with
  | false =>
    clear hbs hs
    obtain ⟨prog,gs,ps,ms,gl,c0,c1,c2,c3,w0,w1,w2,w3,ts,ck,pr⟩:=s
    obtain ⟨rp,rg,rq,rm,rl,r0,r1,r2,r3,rt,⟨h_rp,s_rp,l_rp⟩,⟨h_rg,s_rg,l_rg⟩,⟨h_rq,s_rq,l_rq⟩,⟨h_rm,s_rm,l_rm⟩,⟨h_rl,s_rl,l_rl⟩,⟨h_r0,s_r0,l_r0⟩,⟨h_r1,s_r1,l_r1⟩,⟨h_r2,s_r2,l_r2⟩,⟨h_r3,s_r3,l_r3⟩,⟨h_rt,s_rt,l_rt⟩,hst_⟩:=stR prog gs ps ms gl c0 c1 c2 c3 w0 w1 w2 w3 ts ck pr
    rw [hst_] at ks ⊢
    clear hst_ h_rp h_rg h_rq h_rm h_rl h_r0 h_r1 h_r2 h_r3 h_rt l_rp l_rg l_rm l_rq l_rl l_r0 l_r1 l_r2 l_r3 l_rt
    refine callsV_l hD Try.func11 ok11 rfl rfl (by simp only [List.map_cons,List.map_nil,V.sh,V.shL,stL,stN,stK,stH,s_rp,s_rg,s_rq,s_rm,s_rl,s_r0,s_r1,s_r2,s_r3,s_rt]) fun P L Q hP hL hQ=>?_
    rw [← hP] at ks kf
    repeat' (cbv; first|refine .y ?_|refine .n ?_|refine .s (fun hc=>?_) fun hc=>?_|refine .x ?_|refine .r ?_|refine .e fun v hv=>?_|refine .a fun v hv=>?_|refine .d ?_|refine .u fun vr vn hvr hvn hvl=>?_|fail)
    all_goals (try cbv)
    (refine hQ _ ⟨?_,?_,?_,?_,?_⟩ <;> (try cbv) <;> (repeat' first|exact True.intro|exact rfl|assumption|exact FrR.mk rfl|exact FrS.mk rfl|(rw [hL]; rfl)|refine ⟨?_,?_⟩|fail))
  | true =>
  have fs:=fit_small hbs.symm
  obtain ⟨b,hb⟩ : ∃ b,b=looksB s p:=⟨_,rfl⟩
  have kl:=c31 s fs p b hb
  cases b with
  | false =>
    clear hbs hs hb fs
    obtain ⟨prog,gs,ps,ms,gl,c0,c1,c2,c3,w0,w1,w2,w3,ts,ck,pr⟩:=s
    obtain ⟨rp,rg,rq,rm,rl,r0,r1,r2,r3,rt,⟨h_rp,s_rp,l_rp⟩,⟨h_rg,s_rg,l_rg⟩,⟨h_rq,s_rq,l_rq⟩,⟨h_rm,s_rm,l_rm⟩,⟨h_rl,s_rl,l_rl⟩,⟨h_r0,s_r0,l_r0⟩,⟨h_r1,s_r1,l_r1⟩,⟨h_r2,s_r2,l_r2⟩,⟨h_r3,s_r3,l_r3⟩,⟨h_rt,s_rt,l_rt⟩,hst_⟩:=stR prog gs ps ms gl c0 c1 c2 c3 w0 w1 w2 w3 ts ck pr
    rw [hst_] at ks kl ⊢
    clear hst_ h_rp h_rg h_rq h_rm h_rl h_r0 h_r1 h_r2 h_r3 h_rt l_rp l_rg l_rm l_rq l_rl l_r0 l_r1 l_r2 l_r3 l_rt
    refine callsV_l hD Try.func11 ok11 rfl rfl (by simp only [List.map_cons,List.map_nil,V.sh,V.shL,stL,stN,stK,stH,s_rp,s_rg,s_rq,s_rm,s_rl,s_r0,s_r1,s_r2,s_r3,s_rt]) fun P L Q hP hL hQ=>?_
    rw [← hP] at ks kf kl
    repeat' (cbv; first|refine .y ?_|refine .n ?_|refine .s (fun hc=>?_) fun hc=>?_|refine .x ?_|refine .r ?_|refine .e fun v hv=>?_|refine .a fun v hv=>?_|refine .d ?_|refine .u fun vr vn hvr hvn hvl=>?_|fail)
    all_goals (try cbv)
    (refine hQ _ ⟨?_,?_,?_,?_,?_⟩ <;> (try cbv) <;> (repeat' first|exact True.intro|exact rfl|assumption|exact FrR.mk rfl|exact FrS.mk rfl|(rw [hL]; rfl)|refine ⟨?_,?_⟩|fail))
  | true =>
  obtain ⟨hm,p1,p2⟩:=looks_may hb.symm
  have hgs:=fs.gs
  by_cases hc:1≤g∧g.toNat≤s.gs.length
  · obtain ⟨g1,g2⟩:=hc
    have hG:=getG_of (s:=s) (p:=g) (by omega)
    obtain ⟨j,hj⟩ : ∃ i:Int,i=g - 1:=⟨_,rfl⟩
    by_cases hst:(getG s g).st=1
    · have kp:=c33t s fs (low_of hbs.symm hm) p g (by unfold startOk; rw [← hb,Bool.true_and]; exact decide_eq_true ⟨g1,g2,hst⟩)
      obtain ⟨hmt,hpl,hlen,hoth⟩:=start_ok hb.symm g1 g2 hst (sq_of hbs.symm _ (List.mem_of_getElem? hG))
      have ft:=start_fit (p:=p) (g:=g) fs
      have ho:=(may_ok s).1 hm
      have h8:=ho.p8
      have hpr:=ho.pr8
      have hx:=getP_of (s:=s) (p:=p) (by omega)
      have KS:∀ i:Int,CallsV Try.prog 24 [.agg (stC s),.int .i64 i] (.agg (plC (placeS s i))) [.undef,.undef] true:=fun i=>c24 s fs i _ rfl
      have KT:∀ i:Int,1≤i→i≤s.gs.length→i≠g→CallsV Try.prog 24 [.agg (stC (startS s p g)),.int .i64 i] (.agg (plC (placeS s i))) [.undef,.undef] true:=fun i i1 i2 i3=>c24 _ ft i _ (hoth i i1 i2 i3).symm
      have kn:=c24 _ ft g (4,(getP s p).m) hpl.symm
      have km:=c23 _ ft true hmt.symm
      obtain ⟨r,hr⟩ : ∃ r,r=startS s p g:=⟨_,rfl⟩
      rw [← hr] at kp kn km hlen KT
      obtain ⟨pl,hpl'⟩ : ∃ f:Int→Int×Int,f=placeS s:=⟨_,rfl⟩
      rw [← hpl'] at KS KT
      obtain ⟨x,hxe⟩ : ∃ x,x=getP s p:=⟨_,rfl⟩
      obtain ⟨y,hye⟩ : ∃ x,x=getG s g:=⟨_,rfl⟩
      rw [← hxe] at hx kn
      rw [← hye] at hG hst
      have hpp:p.toNat≤s.ps.length:=by omega
      clear hxe hye hpl' hr hbs hb hm ho hs hpl hmt hoth fs ft
      obtain ⟨xm,xn,⟨b0,b1,b2,b3,b4,b5,b6,b7,xh,xl⟩,xs⟩:=x
      obtain ⟨y0,y1,y2,y3,y4⟩:=y
      dsimp only at hst
      subst hst
      obtain ⟨i,hi⟩ : ∃ i:Int,i=p - 1:=⟨_,rfl⟩
      obtain ⟨prog,gs,ps,ms,gl,c0,c1,c2,c3,w0,w1,w2,w3,ts,ck,pr⟩:=s
      obtain ⟨rp,rg,rq,rm,rl,r0,r1,r2,r3,rt,⟨h_rp,s_rp,l_rp⟩,⟨h_rg,s_rg,l_rg⟩,⟨h_rq,s_rq,l_rq⟩,⟨h_rm,s_rm,l_rm⟩,⟨h_rl,s_rl,l_rl⟩,⟨h_r0,s_r0,l_r0⟩,⟨h_r1,s_r1,l_r1⟩,⟨h_r2,s_r2,l_r2⟩,⟨h_r3,s_r3,l_r3⟩,⟨h_rt,s_rt,l_rt⟩,hst_⟩:=stR prog gs ps ms gl c0 c1 c2 c3 w0 w1 w2 w3 ts ck pr
      dsimp only at hgs g2 hG h8 hpr p2 hx hlen hpp KT
      rw [hst_] at ks kl kp KS ⊢
      obtain ⟨uprog,ugs,ups,ums,ugl,uc0,uc1,uc2,uc3,uw0,uw1,uw2,uw3,uts,uck,upr⟩:=r
      obtain ⟨urp,urg,urq,urm,url,ur0,ur1,ur2,ur3,urt,⟨h_urp,s_urp,l_urp⟩,⟨h_urg,s_urg,l_urg⟩,⟨h_urq,s_urq,l_urq⟩,⟨h_urm,s_urm,l_urm⟩,⟨h_url,s_url,l_url⟩,⟨h_ur0,s_ur0,l_ur0⟩,⟨h_ur1,s_ur1,l_ur1⟩,⟨h_ur2,s_ur2,l_ur2⟩,⟨h_ur3,s_ur3,l_ur3⟩,⟨h_urt,s_urt,l_urt⟩,hst_u⟩:=stR uprog ugs ups ums ugl uc0 uc1 uc2 uc3 uw0 uw1 uw2 uw3 uts uck upr
      dsimp only at hlen
      rw [hst_u] at kn km KT
      rw [stR_mk,← h_urp,← h_urg,← h_urq,← h_urm,← h_url,← h_ur0,← h_ur1,← h_ur2,← h_ur3,← h_urt] at kp
      have gx:rq.getD i.toNat []=pC ⟨xm,xn,⟨b0,b1,b2,b3,b4,b5,b6,b7,xh,xl⟩,xs⟩:=getD_rows (x:=(⟨xm,xn,⟨b0,b1,b2,b3,b4,b5,b6,b7,xh,xl⟩,xs⟩ : PD)) h_rq (by rw [show i.toNat=p.toNat - 1 by omega]; exact hx)
      have gy:rg.getD j.toNat []=gC ⟨y0,y1,1,y3,y4⟩:=getD_rows (x:=(⟨y0,y1,1,y3,y4⟩ : GD)) h_rg (by rw [show j.toNat=g.toNat - 1 by omega]; exact hG)
      clear hst_u h_urp h_urg h_urq h_urm h_url h_ur0 h_ur1 h_ur2 h_ur3 h_urt l_urp l_urq l_urm l_url l_ur0 l_ur1 l_ur2 l_ur3 l_urt
      clear hst_ h_rp h_rg h_rq h_rm h_rl h_r0 h_r1 h_r2 h_r3 h_rt l_rp l_rm l_rl l_r0 l_r1 l_r2 l_r3 l_rt hx hG
      obtain ⟨n,hn⟩ : ∃ n:Int,0≤n∧n.toNat=gs.length:=⟨gs.length,by omega,by omega⟩
      have KT:=fun i a (b:i≤n) c=>KT i a (by omega) c
      refine callsV_l hD Try.func11 ok11 rfl rfl (by simp only [List.map_cons,List.map_nil,V.sh,V.shL,stL,stN,stK,stH,s_rp,s_rg,s_rq,s_rm,s_rl,s_r0,s_r1,s_r2,s_r3,s_rt]) fun P L Q hP hL hQ=>?_
      rw [← hP] at ks kf kl kp kn km KS KT
      repeat' (cbv; first|refine .y ?_|refine .n ?_|refine .s (fun hc=>?_) fun hc=>?_|refine .x ?_|refine .r ?_|refine .e fun v hv=>?_|refine .a fun v hv=>?_|refine .d ?_|refine .u fun vr vn hvr hvn hvl=>?_|fail)
      all_goals (try cbv)
      all_goals try (exfalso; omega)
      refine LoopQ.to (ι:=Int) (fun k=>⟨tab .undef [(1,.int .i64 p),(2,.int .i64 g),(3,.ptr 100 0),(7,.ptr 101 0),(9,.int .i64 k)],tab .dead [(100,.box (stL rp rg rq rm rl c0 c1 c2 c3 r0 r1 r2 r3 rt ck pr)),
          (101,.box [.sl true 1 urp,.sl true 5 urg,.sl true 13 urq,.sl true 2 urm,.sl true 1 url,.int .i64 uc0,.int .i64 uc1,.int .i64 uc2,.int .i64 uc3,.sl false 1 ur0,.sl false 1 ur1,.sl false 1 ur2,.sl false 1 ur3,.sl false 2 urt,.int .i64 uck,.int .i64 upr])]⟩)
        (fun k=>1≤k∧k≤n+1) (fun k=>(n+1 - k).toNat) 1 ⟨by omega,by omega⟩ rfl fun k ⟨k1,k2⟩ A hA=>?_
      by_cases hk:k≤n
      · by_cases hkg:k=g
        · subst hkg
          clear KS KT
          repeat' (cbv; first|refine .y ?_|refine .n ?_|refine .s (fun hc=>?_) fun hc=>?_|refine .x ?_|refine .r ?_|refine .e fun v hv=>?_|refine .a fun v hv=>?_|refine .d ?_|refine .u fun vr vn hvr hvn hvl=>?_|fail)
          all_goals (try cbv)
          all_goals first
            | (exfalso; omega)
            | (exact hA _ _ ⟨by omega,by omega⟩ (by omega) rfl)
        · have ka:=KS k
          have kb:=KT k k1 hk hkg
          obtain ⟨z1,z2⟩:=pl k
          clear KS KT
          repeat' (cbv; first|refine .y ?_|refine .n ?_|refine .s (fun hc=>?_) fun hc=>?_|refine CallQ.go ka ?_|refine CallQ.go kb ?_|refine .x ?_|refine .r ?_|refine .e fun v hv=>?_|refine .a fun v hv=>?_|refine .d ?_|refine .u fun vr vn hvr hvn hvl=>?_|fail)
          all_goals (try cbv)
          all_goals first
            | (exfalso; omega)
            | (exact absurd (And.intro rfl (And.intro rfl trivial)) hc)
            | (exact hA _ _ ⟨by omega,by omega⟩ (by omega) rfl)
      · clear KS KT
        repeat' (cbv; first|refine .y ?_|refine .n ?_|refine .s (fun hc=>?_) fun hc=>?_|refine .x ?_|refine .r ?_|refine .e fun v hv=>?_|refine .a fun v hv=>?_|refine .d ?_|refine .u fun vr vn hvr hvn hvl=>?_|fail)
        all_goals (try cbv)
        all_goals first
          | (exfalso; omega)
          | (exact absurd (And.intro rfl (And.intro rfl trivial)) hc)
          | (refine hQ _ ⟨?_,?_,?_,?_,?_⟩ <;> (try cbv) <;> (repeat' first|exact True.intro|exact rfl|assumption|exact FrR.mk rfl|exact FrS.mk rfl|(rw [hL]; rfl)|refine ⟨?_,?_⟩|fail))
    · have kp:=c33f s fs p g (by unfold startOk; rw [← hb,Bool.true_and]; exact decide_eq_false fun h=>hst h.2.2)
      obtain ⟨y,hye⟩ : ∃ x,x=getG s g:=⟨_,rfl⟩
      rw [← hye] at hG hst
      clear hye hbs hb hm hs fs
      obtain ⟨y0,y1,y2,y3,y4⟩:=y
      obtain ⟨prog,gs,ps,ms,gl,c0,c1,c2,c3,w0,w1,w2,w3,ts,ck,pr⟩:=s
      obtain ⟨rp,rg,rq,rm,rl,r0,r1,r2,r3,rt,⟨h_rp,s_rp,l_rp⟩,⟨h_rg,s_rg,l_rg⟩,⟨h_rq,s_rq,l_rq⟩,⟨h_rm,s_rm,l_rm⟩,⟨h_rl,s_rl,l_rl⟩,⟨h_r0,s_r0,l_r0⟩,⟨h_r1,s_r1,l_r1⟩,⟨h_r2,s_r2,l_r2⟩,⟨h_r3,s_r3,l_r3⟩,⟨h_rt,s_rt,l_rt⟩,hst_⟩:=stR prog gs ps ms gl c0 c1 c2 c3 w0 w1 w2 w3 ts ck pr
      dsimp only at hgs g2 hG hst
      rw [hst_] at ks kl kp ⊢
      have gy:rg.getD j.toNat []=gC ⟨y0,y1,y2,y3,y4⟩:=getD_rows (x:=(⟨y0,y1,y2,y3,y4⟩ : GD)) h_rg (by rw [show j.toNat=g.toNat - 1 by omega]; exact hG)
      clear hst_ h_rp h_rg h_rq h_rm h_rl h_r0 h_r1 h_r2 h_r3 h_rt l_rp l_rm l_rl l_rq l_r0 l_r1 l_r2 l_r3 l_rt hG
      refine callsV_l hD Try.func11 ok11 rfl rfl (by simp only [List.map_cons,List.map_nil,V.sh,V.shL,stL,stN,stK,stH,s_rp,s_rg,s_rq,s_rm,s_rl,s_r0,s_r1,s_r2,s_r3,s_rt]) fun P L Q hP hL hQ=>?_
      rw [← hP] at ks kf kl kp
      repeat' (cbv; first|refine .y ?_|refine .n ?_|refine .s (fun hc=>?_) fun hc=>?_|refine .x ?_|refine .r ?_|refine .e fun v hv=>?_|refine .a fun v hv=>?_|refine .d ?_|refine .u fun vr vn hvr hvn hvl=>?_|fail)
      all_goals (try cbv)
      all_goals first
        | (exfalso; omega)
        | (exact absurd (And.intro rfl (And.intro rfl trivial)) hc)
        | (refine hQ _ ⟨?_,?_,?_,?_,?_⟩ <;> (try cbv) <;> (repeat' first|exact True.intro|exact rfl|assumption|exact FrR.mk rfl|exact FrS.mk rfl|(rw [hL]; rfl)|refine ⟨?_,?_⟩|fail))
  · have hc':g < 1∨(s.gs.length:Int) < g:=by omega
    clear hc hm p1 p2 hb hbs fs hs
    obtain ⟨prog,gs,ps,ms,gl,c0,c1,c2,c3,w0,w1,w2,w3,ts,ck,pr⟩:=s
    obtain ⟨rp,rg,rq,rm,rl,r0,r1,r2,r3,rt,⟨h_rp,s_rp,l_rp⟩,⟨h_rg,s_rg,l_rg⟩,⟨h_rq,s_rq,l_rq⟩,⟨h_rm,s_rm,l_rm⟩,⟨h_rl,s_rl,l_rl⟩,⟨h_r0,s_r0,l_r0⟩,⟨h_r1,s_r1,l_r1⟩,⟨h_r2,s_r2,l_r2⟩,⟨h_r3,s_r3,l_r3⟩,⟨h_rt,s_rt,l_rt⟩,hst_⟩:=stR prog gs ps ms gl c0 c1 c2 c3 w0 w1 w2 w3 ts ck pr
    dsimp only at hc' hgs
    rw [← l_rg] at hc' hgs
    rw [hst_] at ks kl ⊢
    clear hst_ h_rp h_rg h_rq h_rm h_rl h_r0 h_r1 h_r2 h_r3 h_rt l_rp l_rg l_rm l_rq l_rl l_r0 l_r1 l_r2 l_r3 l_rt
    obtain ⟨n,hn⟩ : ∃ n:Int,0≤n∧n.toNat=rg.length:=⟨rg.length,by omega,by omega⟩
    have hc2:g < 1∨n < g:=by omega
    clear hc'
    refine callsV_l hD Try.func11 ok11 rfl rfl (by simp only [List.map_cons,List.map_nil,V.sh,V.shL,stL,stN,stK,stH,s_rp,s_rg,s_rq,s_rm,s_rl,s_r0,s_r1,s_r2,s_r3,s_rt]) fun P L Q hP hL hQ=>?_
    rw [← hP] at ks kf kl
    repeat' (cbv; first|refine .y ?_|refine .n ?_|refine .s (fun hc=>?_) fun hc=>?_|refine .x ?_|refine .r ?_|refine .e fun v hv=>?_|refine .a fun v hv=>?_|refine .d ?_|refine .u fun vr vn hvr hvn hvl=>?_|fail)
    all_goals (try cbv)
    all_goals first
      | (exfalso; omega)
      | (exact absurd (And.intro rfl (And.intro rfl trivial)) hc)
      | (refine hQ _ ⟨?_,?_,?_,?_,?_⟩ <;> (try cbv) <;> (repeat' first|exact True.intro|exact rfl|assumption|exact FrR.mk rfl|exact FrS.mk rfl|(rw [hL]; rfl)|refine ⟨?_,?_⟩|fail))
end Go.Ab
