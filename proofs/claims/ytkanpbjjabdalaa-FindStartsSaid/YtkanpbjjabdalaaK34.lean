/-
  The text of a law.
  law14: FindOrder.
-/
import Derived.Test.YtkanpbjjabdalaaK9
import Derived.Test.YtkanpbjjabdalaaK16
import Derived.Test.YtkanpbjjabdalaaK28
import Derived.Test.YtkanpbjjabdalaaK32
set_option linter.all false
namespace Go.Ab
open Go Go.Proofs T
set_option maxRecDepth 1000000
def t10:FnT:=⟨3,[],[],[.t 6],S [g [1,2,3] [100] [100] [p 3 (.box (.t 0) 100),p 6 (B false)],S [g [1,2,3,23] [100] [] [p 11 (.call 30 [] []),p 12 (v 11),p 13 (m 12),q 14 (L 16 3) 13,q 15 (.call 12 [r 14] []) 13,q 16 (v 15) 13,p 17 (o 13 16),p 18 (m 17),q 19 (L 16 3) 18,q 20 (m 1) 18,q 21 (.call 31 [r 19,r 20] []) 18,q 22 (v 21) 18,p 23 (o 18 22)],.cond (.t 23) (S [g [6] [] [] [p 24 (.call 30 [] []),p 6 (m 24)],.ret]) (.skip)],g [1,3,8,9] [100] [101] [p 26 (L 16 3),p 27 (m 1),p 28 (m 2),p 29 (.call 32 [r 26,r 27,r 28] []),p 25 (m 29),p 30 (e 0 25),p 31 (e 1 25),p 32 (e 2 25),p 7 (.alloc [.nils 1,.nils 5,.nils 13,.nils 2,.nils 1,Z,Z,Z,Z,.nils 1,.nils 1,.nils 1,.nils 1,.nils 2,Z,Z] 101 []),u (s 16 7 30),p 8 (m 31),p 9 (m 32)],g [3,8,9,10] [100] [] [p 33 (L 16 3),p 34 (m 1),p 35 (.call 25 [r 33,r 34] []),p 10 (m 35)],S [g [3,8,10,37] [100] [] [p 36 (m 9),p 37 (c .neq 36 0)],.cond (.t 37) (S [g [6] [] [] [p 6 (B false)],.ret]) (.skip)],S [g [3,8,10,40] [100] [] [p 38 (m 10),p 39 (h 38),p 40 (c .gtr 39 0)],.cond (.t 40) (S [g [6] [] [] [p 41 (m 8),p 42 (m 10),p 43 (y 1 42 0),p 44 (l 43),p 45 (b .eql 41 44),p 6 (m 45)],.ret]) (.skip)],g [6] [] [] [p 46 (f 4 3),p 47 (l 46),p 48 (h 47),p 49 (c .eql 48 0),p 50 (m 49),q 51 (m 8) 50,q 52 (f 4 3) 50,q 53 (l 52) 50,q 54 (y 1 53 0) 50,q 55 (l 54) 50,q 56 (b .eql 51 55) 50,p 57 (o 50 56),p 6 (m 57)],.ret]⟩
theorem ok10:okFn Try.prog Try.f10 t10=true:=by kernel_rfl
end Go.Ab

namespace Go.Ab
open Go Go.Proofs
set_option maxRecDepth 100000
theorem low_of {s:SD} (hs:smallS s=true) (hm:mayS s=true):Lowq s:=by
  intro x hx
  unfold smallS at hs
  simp only [Bool.and_eq_true,List.all_eq_true,decide_eq_true_eq] at hs
  have h1:=hs.1.1.1.1 x hx
  have h2:=((may_ok s).1 hm).gs x hx
  unfold okG at h2
  simp only [Bool.and_eq_true,decide_eq_true_eq] at h2
  omega
theorem sq_of {s:SD} (hs:smallS s=true):∀ x∈s.gs,x.sq≤1000000:=by
  intro x hx
  unfold smallS at hs
  simp only [Bool.and_eq_true,List.all_eq_true,decide_eq_true_eq] at hs
  exact hs.1.1.1.1 x hx
theorem looks_may {s:SD} {p:Int} (h:looksB s p=true):mayS s=true∧1≤p∧p≤s.pr:=by
  unfold looksB at h
  simp only [Bool.and_eq_true,decide_eq_true_eq] at h
  exact ⟨h.1,h.2.1,h.2.2.1⟩
theorem order_pick {s:SD} {p v:Int} (h:looksB s p=true) :
    (∃ t,queueOf (getP s p)=(pickS s p v).2::t)∨(queueOf (getP s p)=[]∧(s.gl=[]∨∃ t,s.gl=(pickS s p v).2::t)):=by
  obtain ⟨hm,p1,p2⟩:=looks_may h
  have ho:=(may_ok s).1 hm
  obtain ⟨hlt,hx,hr⟩:=P_of ho p1 p2
  unfold queueOf
  by_cases h0:(getP s p).nx=0
  · rw [if_pos h0,List.nil_append]
    cases he:listR (getP s p).r with
    | cons g l =>
      have hl:(localF s p).2=g:=by unfold localF; rw [he]
      have g1:=listR_pos hr g (by rw [he]; simp)
      refine .inl ⟨l,?_⟩
      rw [pick_local h0 (by omega),hl]
    | nil =>
      refine .inr ⟨rfl,?_⟩
      cases hg:s.gl with
      | nil=>exact .inl rfl
      | cons g l =>
        have hl:(globalF s).2=g:=by unfold globalF; rw [hg]
        have g1:=(ho.inR g (List.mem_append_right _ (by rw [hg]; simp))).1
        refine .inr ⟨l,?_⟩
        rw [pick_global h0 he (by omega),hl]
  · rw [if_neg h0]
    refine .inl ⟨listR (getP s p).r,?_⟩
    rw [pick_next (show (nextF s p).2≠0 from h0)]
    rfl
set_option maxHeartbeats 16000000 in
theorem c10 (s:SD) (hs:Held s) (p v:Int):CallsV Try.prog 10 [.agg (stC s),.int .i64 p,.int .i64 v] (.bool true) [.undef,.undef,.undef] true:=by
  obtain ⟨bs,hbs⟩ : ∃ b,b=smallS s:=⟨_,rfl⟩
  have ks:=c12 s hs bs hbs
  have kf:=c30
  cases bs with
  | false =>
    clear hbs hs
    obtain ⟨prog,gs,ps,ms,gl,c0,c1,c2,c3,w0,w1,w2,w3,ts,ck,pr⟩:=s
    obtain ⟨rp,rg,rq,rm,rl,r0,r1,r2,r3,rt,⟨h_rp,s_rp,l_rp⟩,⟨h_rg,s_rg,l_rg⟩,⟨h_rq,s_rq,l_rq⟩,⟨h_rm,s_rm,l_rm⟩,⟨h_rl,s_rl,l_rl⟩,⟨h_r0,s_r0,l_r0⟩,⟨h_r1,s_r1,l_r1⟩,⟨h_r2,s_r2,l_r2⟩,⟨h_r3,s_r3,l_r3⟩,⟨h_rt,s_rt,l_rt⟩,hst_⟩:=stR prog gs ps ms gl c0 c1 c2 c3 w0 w1 w2 w3 ts ck pr
    rw [hst_] at ks ⊢
    clear hst_ h_rp h_rg h_rq h_rm h_rl h_r0 h_r1 h_r2 h_r3 h_rt l_rp l_rg l_rm l_rq l_rl l_r0 l_r1 l_r2 l_r3 l_rt
    refine callsV_l hD Try.func10 ok10 rfl rfl (by simp only [List.map_cons,List.map_nil,V.sh,V.shL,stL,stN,stK,stH,s_rp,s_rg,s_rq,s_rm,s_rl,s_r0,s_r1,s_r2,s_r3,s_rt]) fun P L Q hP hL hQ=>?_
    rw [← hP] at ks kf
    repeat' (cbv; first|refine .y ?_|refine .n ?_|refine .s (fun hc=>?_) fun hc=>?_|refine .x ?_|refine .r ?_|refine .e fun v hv=>?_|refine .a fun v hv=>?_|refine .d ?_|refine .u fun vr vn hvr hvn hvl=>?_|fail)
    all_goals (try cbv)
    (refine hQ _ ⟨?_,?_,?_,?_,?_⟩ <;> (try cbv) <;> (repeat' first|exact True.intro|exact rfl|assumption|exact FrR.mk rfl|exact FrS.mk rfl|(rw [hL]; rfl)|refine ⟨?_,?_⟩|fail))
  | true =>
  have fs:=fit_small hbs.symm
  obtain ⟨b,hb⟩ : ∃ b,b=looksB s p:=⟨_,rfl⟩
  have kl:=c31 s fs p b hb
  cases b with
  | false =>
    clear hbs hs hb fs
    obtain ⟨prog,gs,ps,ms,gl,c0,c1,c2,c3,w0,w1,w2,w3,ts,ck,pr⟩:=s
    obtain ⟨rp,rg,rq,rm,rl,r0,r1,r2,r3,rt,⟨h_rp,s_rp,l_rp⟩,⟨h_rg,s_rg,l_rg⟩,⟨h_rq,s_rq,l_rq⟩,⟨h_rm,s_rm,l_rm⟩,⟨h_rl,s_rl,l_rl⟩,⟨h_r0,s_r0,l_r0⟩,⟨h_r1,s_r1,l_r1⟩,⟨h_r2,s_r2,l_r2⟩,⟨h_r3,s_r3,l_r3⟩,⟨h_rt,s_rt,l_rt⟩,hst_⟩:=stR prog gs ps ms gl c0 c1 c2 c3 w0 w1 w2 w3 ts ck pr
    rw [hst_] at ks kl ⊢
    clear hst_ h_rp h_rg h_rq h_rm h_rl h_r0 h_r1 h_r2 h_r3 h_rt l_rp l_rg l_rm l_rq l_rl l_r0 l_r1 l_r2 l_r3 l_rt
    refine callsV_l hD Try.func10 ok10 rfl rfl (by simp only [List.map_cons,List.map_nil,V.sh,V.shL,stL,stN,stK,stH,s_rp,s_rg,s_rq,s_rm,s_rl,s_r0,s_r1,s_r2,s_r3,s_rt]) fun P L Q hP hL hQ=>?_
    rw [← hP] at ks kf kl
    repeat' (cbv; first|refine .y ?_|refine .n ?_|refine .s (fun hc=>?_) fun hc=>?_|refine .x ?_|refine .r ?_|refine .e fun v hv=>?_|refine .a fun v hv=>?_|refine .d ?_|refine .u fun vr vn hvr hvn hvl=>?_|fail)
    all_goals (try cbv)
    (refine hQ _ ⟨?_,?_,?_,?_,?_⟩ <;> (try cbv) <;> (repeat' first|exact True.intro|exact rfl|assumption|exact FrR.mk rfl|exact FrS.mk rfl|(rw [hL]; rfl)|refine ⟨?_,?_⟩|fail))
  | true =>
  obtain ⟨hm,p1,p2⟩:=looks_may hb.symm
  have kp:=c32t s fs (low_of hbs.symm hm) p v hb.symm
  have hord:=order_pick (v:=v) hb.symm
  have kq:=c25 s fs p
  unfold queueV at kq
  rw [if_neg (by rw [hm]; simp; omega)] at kq
  rw [show s.ps.getD (p.toNat - 1) default=getP s p from rfl] at kq
  obtain ⟨q,hq⟩ : ∃ q,q=queueOf (getP s p):=⟨_,rfl⟩
  have ql:=queueOf_len (getP s p)
  rw [← hq] at kq hord ql
  obtain ⟨g,hg⟩ : ∃ g,g=(pickS s p v).2:=⟨_,rfl⟩
  obtain ⟨r,hr⟩ : ∃ g,g=(pickS s p v).1:=⟨_,rfl⟩
  rw [← hg] at kp hord
  rw [← hr] at kp
  have hgl:=fs.gl
  clear hq hg hr hbs hs hb fs hm p1 p2
  obtain ⟨rw,h_rw⟩ : ∃ r,r=q.map iC:=⟨_,rfl⟩
  have s_rw:V.shR rw=rw:=by rw [h_rw]; exact shR_iC q
  have l_rw:rw.length=q.length:=by simp [h_rw]
  rw [← h_rw] at kq
  obtain ⟨prog,gs,ps,ms,gl,c0,c1,c2,c3,w0,w1,w2,w3,ts,ck,pr⟩:=s
  obtain ⟨rp,rg,rq,rm,rl,r0,r1,r2,r3,rt,⟨h_rp,s_rp,l_rp⟩,⟨h_rg,s_rg,l_rg⟩,⟨h_rq,s_rq,l_rq⟩,⟨h_rm,s_rm,l_rm⟩,⟨h_rl,s_rl,l_rl⟩,⟨h_r0,s_r0,l_r0⟩,⟨h_r1,s_r1,l_r1⟩,⟨h_r2,s_r2,l_r2⟩,⟨h_r3,s_r3,l_r3⟩,⟨h_rt,s_rt,l_rt⟩,hst_⟩:=stR prog gs ps ms gl c0 c1 c2 c3 w0 w1 w2 w3 ts ck pr
  dsimp only at hord hgl
  rw [hst_] at ks kl kp kq ⊢
  obtain ⟨uprog,ugs,ups,ums,ugl,uc0,uc1,uc2,uc3,uw0,uw1,uw2,uw3,uts,uck,upr⟩:=r
  obtain ⟨urp,urg,urq,urm,url,ur0,ur1,ur2,ur3,urt,⟨h_urp,s_urp,l_urp⟩,⟨h_urg,s_urg,l_urg⟩,⟨h_urq,s_urq,l_urq⟩,⟨h_urm,s_urm,l_urm⟩,⟨h_url,s_url,l_url⟩,⟨h_ur0,s_ur0,l_ur0⟩,⟨h_ur1,s_ur1,l_ur1⟩,⟨h_ur2,s_ur2,l_ur2⟩,⟨h_ur3,s_ur3,l_ur3⟩,⟨h_urt,s_urt,l_urt⟩,hst_u⟩:=stR uprog ugs ups ums ugl uc0 uc1 uc2 uc3 uw0 uw1 uw2 uw3 uts uck upr
  rw [stQ_mk,← h_urp,← h_urg,← h_urq,← h_urm,← h_url,← h_ur0,← h_ur1,← h_ur2,← h_ur3,← h_urt] at kp
  clear hst_u h_urp h_urg h_urq h_urm h_url h_ur0 h_ur1 h_ur2 h_ur3 h_urt l_urp l_urg l_urq l_urm l_url l_ur0 l_ur1 l_ur2 l_ur3 l_urt
  clear hst_ h_rp h_rg h_rq h_rm h_r0 h_r1 h_r2 h_r3 h_rt l_rp l_rg l_rm l_rq l_r0 l_r1 l_r2 l_r3 l_rt
  rcases hord with ⟨t,e⟩|⟨e,e2|⟨t,e2⟩⟩
  · have g0:rw.getD (0:Int).toNat []=[.int .i64 g]:=by rw [h_rw,e]; rfl
    have hlen:1≤rw.length:=by rw [l_rw,e]; simp
    clear h_rw l_rw h_rl l_rl e ql hgl
    refine callsV_l hD Try.func10 ok10 rfl rfl (by simp only [List.map_cons,List.map_nil,V.sh,V.shL,stL,stN,stK,stH,s_rp,s_rg,s_rq,s_rm,s_rl,s_r0,s_r1,s_r2,s_r3,s_rt]) fun P L Q hP hL hQ=>?_
    rw [← hP] at ks kf kl kp kq
    repeat' (cbv; first|refine .y ?_|refine .n ?_|refine .s (fun hc=>?_) fun hc=>?_|refine .x ?_|refine .r ?_|refine .e fun v hv=>?_|refine .a fun v hv=>?_|refine .d ?_|refine .u fun vr vn hvr hvn hvl=>?_|fail)
    all_goals (try cbv)
    all_goals first
      | (refine hQ _ ⟨?_,?_,?_,?_,?_⟩ <;> (try cbv) <;> (repeat' first|exact True.intro|exact rfl|assumption|exact FrR.mk rfl|exact FrS.mk rfl|(rw [hL]; rfl)|refine ⟨?_,?_⟩|fail))
      | (exfalso; omega)
  · have hlen:rw.length=0:=by rw [l_rw,e]; rfl
    have hl2:rl.length=0:=by rw [l_rl,e2]; rfl
    clear h_rw l_rw h_rl l_rl e e2 ql hgl
    refine callsV_l hD Try.func10 ok10 rfl rfl (by simp only [List.map_cons,List.map_nil,V.sh,V.shL,stL,stN,stK,stH,s_rp,s_rg,s_rq,s_rm,s_rl,s_r0,s_r1,s_r2,s_r3,s_rt]) fun P L Q hP hL hQ=>?_
    rw [← hP] at ks kf kl kp kq
    repeat' (cbv; first|refine .y ?_|refine .n ?_|refine .s (fun hc=>?_) fun hc=>?_|refine .x ?_|refine .r ?_|refine .e fun v hv=>?_|refine .a fun v hv=>?_|refine .d ?_|refine .u fun vr vn hvr hvn hvl=>?_|fail)
    all_goals (try cbv)
    all_goals first
      | (refine hQ _ ⟨?_,?_,?_,?_,?_⟩ <;> (try cbv) <;> (repeat' first|exact True.intro|exact rfl|assumption|exact FrR.mk rfl|exact FrS.mk rfl|(rw [hL]; rfl)|refine ⟨?_,?_⟩|fail))
      | (exfalso; omega)
  · have hlen:rw.length=0:=by rw [l_rw,e]; rfl
    have g0:rl.getD (0:Int).toNat []=[.int .i64 g]:=by rw [h_rl,e2]; rfl
    have hl2:1≤rl.length:=by rw [l_rl,e2]; simp
    clear h_rw l_rw h_rl l_rl e e2 ql hgl
    refine callsV_l hD Try.func10 ok10 rfl rfl (by simp only [List.map_cons,List.map_nil,V.sh,V.shL,stL,stN,stK,stH,s_rp,s_rg,s_rq,s_rm,s_rl,s_r0,s_r1,s_r2,s_r3,s_rt]) fun P L Q hP hL hQ=>?_
    rw [← hP] at ks kf kl kp kq
    repeat' (cbv; first|refine .y ?_|refine .n ?_|refine .s (fun hc=>?_) fun hc=>?_|refine .x ?_|refine .r ?_|refine .e fun v hv=>?_|refine .a fun v hv=>?_|refine .d ?_|refine .u fun vr vn hvr hvn hvl=>?_|fail)
    all_goals (try cbv)
    all_goals first
      | (refine hQ _ ⟨?_,?_,?_,?_,?_⟩ <;> (try cbv) <;> (repeat' first|exact True.intro|exact rfl|assumption|exact FrR.mk rfl|exact FrS.mk rfl|(rw [hL]; rfl)|refine ⟨?_,?_⟩|fail))
      | (exfalso; omega)
end Go.Ab
