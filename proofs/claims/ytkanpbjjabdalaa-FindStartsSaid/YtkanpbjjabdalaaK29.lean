/-
  find: what each source leaves as it was.
  find.Pick.
-/
import Derived.Test.YtkanpbjjabdalaaK8
import Derived.Test.YtkanpbjjabdalaaK23
import Derived.Test.YtkanpbjjabdalaaK28
set_option linter.all false
namespace Go.Ab
open Go
structure SrcP (s t:SD) (p z:Int):Prop where
  prog:t.prog=s.prog
  gs:t.gs=s.gs
  ms:t.ms=s.ms
  pl:t.ps.length=s.ps.length
  gl:t.gl.length≤s.gl.length
  ws:t.w0=s.w0∧t.w1=s.w1∧t.w2=s.w2∧t.w3=s.w3∧t.ts=s.ts
  m:(getP t p).m=(getP s p).m
  zin:z≠0→z∈runnables s
theorem setP_same {s:SD} {p:Int} (h:p.toNat - 1 < s.ps.length):setP s p (getP s p)=s:=by
  unfold setP
  have e:s.ps.set (p.toNat - 1) (getP s p)=s.ps:=by
    refine List.ext_getElem? fun j=>?_
    by_cases hj:p.toNat - 1=j
    · subst hj; rw [List.getElem?_set_self h,getP_of h]
    · rw [List.getElem?_set_ne hj]
  rw [e]
theorem in_queue {s:SD} {p z:Int} (h:p.toNat - 1 < s.ps.length) (hz:z∈queueOf (getP s p)):z∈runnables s :=
  List.mem_append_left _ (List.mem_flatMap.2 ⟨getP s p,List.mem_of_getElem? (getP_of h),hz⟩)
theorem nx_queue {x:PD} (h:x.nx≠0):x.nx∈queueOf x:=by unfold queueOf; rw [if_neg h]; simp
theorem ring_queue {x:PD} {z:Int} (h:z∈listR x.r):z∈queueOf x:=by unfold queueOf; simp [h]
theorem next_src {s:SD} {p q:Int} (p1:1≤p) (p2:p.toNat≤s.ps.length) (q1:1≤q):SrcP s (nextF s p).1 q (nextF s p).2:=by
  refine ⟨rfl,rfl,rfl,by simp [nextF,setP],Nat.le_refl _,⟨rfl,rfl,rfl,rfl,rfl⟩,?_,fun h=>in_queue (by omega) (nx_queue h)⟩
  unfold nextF
  rw [getP_set p1 p2 q1]
  split
  · rename_i e; subst e; rfl
  · rfl
theorem next_zero {s:SD} {p:Int} (h:p.toNat - 1 < s.ps.length) (hz:(nextF s p).2=0):(nextF s p).1=s:=by
  unfold nextF at hz ⊢
  dsimp only at hz ⊢
  have e:({ getP s p with nx:=0 }:PD)=getP s p:=by rw [← hz]
  rw [e]; exact setP_same h
theorem local_src {s:SD} {p:Int} (p1:1≤p) (p2:p.toNat≤s.ps.length):SrcP s (localF s p).1 p (localF s p).2:=by
  unfold localF
  cases he:listR (getP s p).r with
  | nil=>exact ⟨rfl,rfl,rfl,rfl,Nat.le_refl _,⟨rfl,rfl,rfl,rfl,rfl⟩,rfl,fun h=>absurd rfl h⟩
  | cons g l =>
    refine ⟨rfl,rfl,rfl,by simp [setP],Nat.le_refl _,⟨rfl,rfl,rfl,rfl,rfl⟩,?_,fun _=>in_queue (p:=p) (by omega) (ring_queue (by rw [he]; simp))⟩
    dsimp only
    rw [getP_set p1 p2 p1,if_pos rfl]
theorem global_src {s:SD} {p:Int}:SrcP s (globalF s).1 p (globalF s).2:=by
  unfold globalF
  cases he:s.gl with
  | nil=>exact ⟨rfl,rfl,rfl,rfl,Nat.le_refl _,⟨rfl,rfl,rfl,rfl,rfl⟩,rfl,fun h=>absurd rfl h⟩
  | cons g l =>
    refine ⟨rfl,rfl,rfl,rfl,?_,⟨rfl,rfl,rfl,rfl,rfl⟩,rfl,fun _=>List.mem_append_right _ (by rw [he]; simp)⟩
    show l.length≤s.gl.length
    rw [he]; simp
theorem steal_src {s:SD} {p v:Int} (p1:1≤p) (p2:p.toNat≤s.ps.length) (hv:s.pr≤s.ps.length):SrcP s (stealF s p v).1 p (stealF s p v).2:=by
  unfold stealF
  by_cases hc:v < 1∨s.pr < v∨v=p
  · rw [if_pos hc]; exact ⟨rfl,rfl,rfl,rfl,Nat.le_refl _,⟨rfl,rfl,rfl,rfl,rfl⟩,rfl,fun h=>absurd rfl h⟩
  · rw [if_neg hc]
    cases he:listR (getP s v).r with
    | nil=>exact next_src (by omega) (by omega) p1
    | cons g l =>
      refine ⟨rfl,rfl,rfl,by simp [setP],Nat.le_refl _,⟨rfl,rfl,rfl,rfl,rfl⟩,?_,fun _=>in_queue (p:=v) (by omega) (ring_queue (by rw [he]; simp))⟩
      dsimp only
      rw [getP_set p1 (by simp only [setP,List.length_set]; omega) p1,if_pos rfl]
theorem steal_zero {s:SD} {p v:Int} (hv:s.pr≤s.ps.length) (hr:∀ v:Int,1≤v→v≤s.pr→mayR (getP s v).r=true) (hz:(stealF s p v).2=0):(stealF s p v).1=s:=by
  unfold stealF at hz ⊢
  by_cases hc:v < 1∨s.pr < v∨v=p
  · rw [if_pos hc]
  · rw [if_neg hc] at hz ⊢
    cases he:listR (getP s v).r with
    | nil =>
      rw [he] at hz
      exact next_zero (by omega) hz
    | cons g l =>
      rw [he] at hz
      have:=listR_pos (hr v (by omega) (by omega)) g (by rw [he]; simp)
      dsimp only at hz
      omega
theorem local_zero {s:SD} {p:Int} (hr:mayR (getP s p).r=true) (hz:(localF s p).2=0):(localF s p).1=s∧listR (getP s p).r=[]:=by
  unfold localF at hz ⊢
  cases he:listR (getP s p).r with
  | nil=>exact ⟨rfl,rfl⟩
  | cons g l =>
    rw [he] at hz
    have:=listR_pos hr g (by rw [he]; simp)
    dsimp only at hz; omega
theorem global_zero {s:SD} (hp:∀ x∈s.gl,1≤x) (hz:(globalF s).2=0):(globalF s).1=s∧s.gl=[]:=by
  unfold globalF at hz ⊢
  cases he:s.gl with
  | nil=>exact ⟨rfl,rfl⟩
  | cons g l =>
    rw [he] at hz
    have:=hp g (by rw [he]; simp)
    dsimp only at hz; omega
theorem pick_next {s:SD} {p v:Int} (h:(nextF s p).2≠0):pickS s p v=(runS (nextF s p).1 p (nextF s p).2,(nextF s p).2):=by
  unfold pickS; rw [if_pos (show (getP s p).nx≠0 from h)]
theorem pick_local {s:SD} {p v:Int} (h0:(getP s p).nx=0) (h:(localF s p).2≠0):pickS s p v=(runS (localF s p).1 p (localF s p).2,(localF s p).2):=by
  have he:listR (getP s p).r≠[]:=fun e=>h (by unfold localF; rw [e])
  unfold pickS; rw [if_neg (by simpa using h0),if_pos he]
theorem pick_global {s:SD} {p v:Int} (h0:(getP s p).nx=0) (h1:listR (getP s p).r=[]) (h:(globalF s).2≠0):pickS s p v=(runS (globalF s).1 p (globalF s).2,(globalF s).2):=by
  have he:s.gl≠[]:=fun e=>h (by unfold globalF; rw [e])
  unfold pickS; rw [if_neg (by simpa using h0),if_neg (by simpa using h1),if_pos he]
theorem pick_steal {s:SD} {p v:Int} (h0:(getP s p).nx=0) (h1:listR (getP s p).r=[]) (h2:s.gl=[]) (h:(stealF s p v).2≠0):pickS s p v=(runS (stealF s p v).1 p (stealF s p v).2,(stealF s p v).2):=by
  unfold pickS; rw [if_neg (by simpa using h0),if_neg (by simpa using h1),if_neg (by simpa using h2),if_pos h]
theorem pick_none {s:SD} {p v:Int} (h0:(getP s p).nx=0) (h1:listR (getP s p).r=[]) (h2:s.gl=[]) (h:(stealF s p v).2=0):pickS s p v=((stealF s p v).1,0):=by
  unfold pickS; rw [if_neg (by simpa using h0),if_neg (by simpa using h1),if_neg (by simpa using h2),if_neg (by simpa using h)]
end Go.Ab

namespace Go.Ab
open Go Go.Proofs
set_option maxRecDepth 100000
theorem q38y (s:SD) (hs:Fit s):CallsV Try.prog 38 [.agg (stC s)] (.agg (stR_ s)) [.undef] false:=by
  have h:=(c38y s hs).asRead
  have e:(V.agg (cpY s)).sh=.agg (stR_ s):=by
    simp only [V.sh,V.shL,cpY,stR_,stH,shR_fT,shR_gC,shR_pC,shR_mC,shR_iC,shR_tC]
  rwa [e] at h
theorem can_next:callable Try.prog 71=true:=by kernel_rfl
theorem can_local:callable Try.prog 72=true:=by kernel_rfl
theorem can_global:callable Try.prog 73=true:=by kernel_rfl
theorem can_steal:callable Try.prog 74=true:=by kernel_rfl
def Lowq (s:SD):Prop:=∀ x∈s.gs,-9000000000000000000≤x.sq∧x.sq≤9000000000000000000
set_option maxHeartbeats 4000000 in
theorem c32f (s:SD) (hs:Fit s) (p v:Int) (h:looksB s p=false):CallsV Try.prog 32 [.agg (stC s),.int .i64 p,.int .i64 v] (.tup [zeroV,.int .i64 0,.int .i64 1]) [.undef,.undef,.undef] true:=by
  have cl:=c70 s hs p false h.symm
  clear h hs
  obtain ⟨prog,gs,ps,ms,gl,c0,c1,c2,c3,w0,w1,w2,w3,ts,ck,pr⟩:=s
  obtain ⟨rp,rg,rq,rm,rl,r0,r1,r2,r3,rt,⟨h_rp,s_rp,l_rp⟩,⟨h_rg,s_rg,l_rg⟩,⟨h_rq,s_rq,l_rq⟩,⟨h_rm,s_rm,l_rm⟩,⟨h_rl,s_rl,l_rl⟩,⟨h_r0,s_r0,l_r0⟩,⟨h_r1,s_r1,l_r1⟩,⟨h_r2,s_r2,l_r2⟩,⟨h_r3,s_r3,l_r3⟩,⟨h_rt,s_rt,l_rt⟩,hst_⟩:=stR prog gs ps ms gl c0 c1 c2 c3 w0 w1 w2 w3 ts ck pr
  rw [hst_] at cl ⊢
  clear hst_ h_rp h_rg h_rq h_rm h_rl h_r0 h_r1 h_r2 h_r3 h_rt l_rp l_rg l_rm l_rq l_rl l_r0 l_r1 l_r2 l_r3 l_rt
  refine callsV_l hD Try.func32 ok32 rfl rfl (by simp only [List.map_cons,List.map_nil,V.sh,V.shL,stL,stN,stK,stH,s_rp,s_rg,s_rq,s_rm,s_rl,s_r0,s_r1,s_r2,s_r3,s_rt]) fun P L Q hP hL hQ=>?_
  rw [← hP] at cl
  repeat' (cbv; first|refine .y ?_|refine .n ?_|refine .s (fun hc=>?_) fun hc=>?_|refine .x ?_|refine .r ?_|refine .e fun v hv=>?_|refine .a fun v hv=>?_|refine .d ?_|refine .u fun vr vn hvr hvn hvl=>?_|fail)
  all_goals (try cbv)
  (refine hQ _ ⟨?_,?_,?_,?_,?_⟩ <;> (try cbv) <;> (repeat' first|exact True.intro|exact rfl|assumption|exact FrR.mk rfl|exact FrS.mk rfl|(rw [hL]; rfl)|refine ⟨?_,?_⟩|fail))
set_option maxHeartbeats 8000000 in
theorem c32t (s:SD) (hs:Fit s) (hq:Lowq s) (p v:Int) (h:looksB s p=true) :
    CallsV Try.prog 32 [.agg (stC s),.int .i64 p,.int .i64 v] (.tup [.agg (stQ (pickS s p v).1),.int .i64 (pickS s p v).2,.int .i64 0]) [.undef,.undef,.undef] false:=by
  have cl:=c70 s hs p true h.symm
  have cc:=q38y s hs
  unfold looksB at h
  simp only [Bool.and_eq_true,decide_eq_true_eq] at h
  obtain ⟨hm,p1,p2,hm0,hg0⟩:=h
  have ho:=(may_ok s).1 hm
  have h8:=ho.p8
  have hpr:=ho.pr8
  obtain ⟨hlt,hx,hr⟩:=P_of ho p1 p2
  have hM:=ho.hp _ _ hx
  unfold okP at hM
  simp only [Bool.and_eq_true,decide_eq_true_eq] at hM
  obtain ⟨-,hM⟩:=hM
  unfold okPp at hM
  obtain ⟨-,-,m0,m1',-⟩:=hM
  have m1:(getP s p).m.toNat≤s.ms.length:=by omega
  have pl:p.toNat≤s.ps.length:=by omega
  have hrall:∀ v:Int,1≤v→v≤s.pr→mayR (getP s v).r=true:=fun v a b=>(P_of ho a b).2.2
  -- a source that has one: what comes of it
  have key:∀ t z,SrcP s t p z→z≠0→CallsV Try.prog 75 [.io (stQ t),.int .i64 p,.int .i64 z] (.tup []) [.io (stQ (runS t p z)),.undef,.undef] true:=fun t z hsrc hz=>by
    have hin:=ho.inR z (hsrc.zin hz)
    have hgt:(getG t z)∈s.gs:=by
      unfold getG
      rw [hsrc.gs,List.getD_eq_getElem?_getD,List.getElem?_eq_getElem (by omega)]
      exact List.getElem_mem _
    exact c75Q t p z p1 (by rw [hsrc.pl]; exact pl) (by rw [hsrc.m]; omega) (by rw [hsrc.m,hsrc.ms]; exact m1) hin.1 (by rw [hsrc.gs]; omega) ⟨by rw [hsrc.gs]; exact hs.gs,by rw [hsrc.pl]; exact hs.ps,by rw [hsrc.ms]; exact hs.ms⟩ (hq _ hgt)
  -- each source: either it has one,or all is as it was
  have src0:∃ t z,CallsV Try.prog 71 [.io (stQ s),.int .i64 p,.int .i64 v] (.int .i64 z) [.io (stQ t),.undef,.undef] true∧(z=0→t=s∧(getP s p).nx=0)∧(z≠0→SrcP s t p z∧pickS s p v=(runS t p z,z)) :=
    ⟨_,_,c71 s p v p1 pl hs.ps,fun e=>⟨next_zero hlt e,e⟩,fun e=>⟨next_src p1 pl p1,pick_next e⟩⟩
  have src1:(getP s p).nx=0→∃ t z,CallsV Try.prog 72 [.io (stQ s),.int .i64 p,.int .i64 v] (.int .i64 z) [.io (stQ t),.undef,.undef] true∧(z=0→t=s∧listR (getP s p).r=[])∧(z≠0→SrcP s t p z∧pickS s p v=(runS t p z,z)):=fun h0 =>
    ⟨_,_,c72 s p v p1 pl hs.ps hr,fun e=>local_zero hr e,fun e=>⟨local_src p1 pl,pick_local h0 e⟩⟩
  have hglp:∀ x∈s.gl,1≤x:=fun x hx=>(ho.inR x (List.mem_append_right _ hx)).1
  have src2:(getP s p).nx=0→listR (getP s p).r=[]→∃ t z,CallsV Try.prog 73 [.io (stQ s),.int .i64 p,.int .i64 v] (.int .i64 z) [.io (stQ t),.undef,.undef] true∧(z=0→t=s∧s.gl=[])∧(z≠0→SrcP s t p z∧pickS s p v=(runS t p z,z)):=fun h0 h1 =>
    ⟨_,_,c73 s p v hs.gl,fun e=>global_zero hglp e,fun e=>⟨global_src,pick_global h0 h1 e⟩⟩
  have csteal:listR (getP s p).r=[]→CallsV Try.prog 74 [.io (stQ s),.int .i64 p,.int .i64 v] (.int .i64 (stealF s p v).2) [.io (stQ (stealF s p v).1),.undef,.undef] true:=fun h1=>by
    by_cases hc:v < 1∨s.pr < v∨v=p
    · have e:stealF s p v=(s,0):=by unfold stealF; rw [if_pos hc]
      rw [e]; exact c74n s p v hc
    · cases he:listR (getP s v).r with
      | nil =>
        have e:stealF s p v=nextF s v:=by unfold stealF; rw [if_neg hc,he]
        rw [e]; exact c74z s p v (by omega) (by omega) (by omega) (by omega) hs.ps (hrall v (by omega) (by omega)) he
      | cons g l=>exact c74s s p v p1 pl (by omega) (by omega) (by omega) (by omega) hs.ps (hrall v (by omega) (by omega)) hr h1 g l he
  have src3:(getP s p).nx=0→listR (getP s p).r=[]→s.gl=[]→∃ t z,CallsV Try.prog 74 [.io (stQ s),.int .i64 p,.int .i64 v] (.int .i64 z) [.io (stQ t),.undef,.undef] true∧(z=0→t=s∧pickS s p v=(s,0))∧(z≠0→SrcP s t p z∧pickS s p v=(runS t p z,z)):=fun h0 h1 h2 =>
    ⟨_,_,csteal h1,fun e=>by
      have e1:=steal_zero (by omega) hrall e
      exact ⟨e1,by rw [pick_none h0 h1 h2 e,e1]⟩,fun e=>⟨steal_src p1 pl (by omega),pick_steal h0 h1 h2 e⟩⟩
  obtain ⟨r,hr1⟩ : ∃ r,r=(pickS s p v).1:=⟨_,rfl⟩
  obtain ⟨w,hw1⟩ : ∃ w,w=(pickS s p v).2:=⟨_,rfl⟩
  have hpk:pickS s p v=(r,w):=by rw [hr1,hw1]
  rw [← hr1,← hw1]
  simp only [hpk] at src0 src1 src2 src3
  obtain ⟨N0,hN0⟩ : ∃ N,N=(getP s p).nx:=⟨_,rfl⟩
  obtain ⟨L0,hL0⟩ : ∃ N,N=listR (getP s p).r:=⟨_,rfl⟩
  rw [← hN0] at src0 src1 src2 src3
  rw [← hL0] at src1 src2 src3
  obtain ⟨s0,hs0⟩ : ∃ q,q=s:=⟨_,rfl⟩
  rw [← hs0] at src0 src1 src2 src3 key
  clear csteal hrall hglp hr hlt hx ho hm hm0 hg0 m0 m1 m1' pl hpk hr1 hw1 hN0 hL0 hs hq h8 hpr p1 p2
  obtain ⟨G0,hG0⟩ : ∃ g,g=s0.gl:=⟨_,rfl⟩
  rw [← hG0] at src2 src3
  obtain ⟨S0,hS0⟩ : ∃ g,g=stQ s0:=⟨_,rfl⟩
  rw [← hS0] at src0 src1 src2 src3
  have hS:S0=stQ s:=by rw [hS0,hs0]
  clear hG0
  obtain ⟨prog,gs,ps,ms,gl,c0,c1,c2,c3,w0,w1,w2,w3,ts,ck,pr⟩:=s
  obtain ⟨rp,rg,rq,rm,rl,r0,r1,r2,r3,rt,⟨h_rp,s_rp,l_rp⟩,⟨h_rg,s_rg,l_rg⟩,⟨h_rq,s_rq,l_rq⟩,⟨h_rm,s_rm,l_rm⟩,⟨h_rl,s_rl,l_rl⟩,⟨h_r0,s_r0,l_r0⟩,⟨h_r1,s_r1,l_r1⟩,⟨h_r2,s_r2,l_r2⟩,⟨h_r3,s_r3,l_r3⟩,⟨h_rt,s_rt,l_rt⟩,hst_⟩:=stR prog gs ps ms gl c0 c1 c2 c3 w0 w1 w2 w3 ts ck pr
  rw [hst_] at cl cc ⊢
  rw [stR_mk,← h_rp,← h_rg,← h_rq,← h_rm,← h_rl,← h_r0,← h_r1,← h_r2,← h_r3,← h_rt] at cc
  rw [stQ_mk,← h_rp,← h_rg,← h_rq,← h_rm,← h_rl,← h_r0,← h_r1,← h_r2,← h_r3,← h_rt] at hS
  clear hst_ h_rp h_rg h_rq h_rm h_rl h_r0 h_r1 h_r2 h_r3 h_rt l_rp l_rg l_rm l_rq l_rl l_r0 l_r1 l_r2 l_r3 l_rt hs0
  refine callsV_l hD Try.func32 ok32 rfl rfl (by simp only [List.map_cons,List.map_nil,V.sh,V.shL,stL,stN,stK,stH,s_rp,s_rg,s_rq,s_rm,s_rl,s_r0,s_r1,s_r2,s_r3,s_rt]) fun P L Q hP hL hQ=>?_
  rw [← hP] at cl cc src0 src1 src2 src3 key
  have k0:=hP ▸ can_next
  have k1:=hP ▸ can_local
  have k2:=hP ▸ can_global
  have k3:=hP ▸ can_steal
  have h4:(0:Int)≤4∧(4:Int).toNat=([[.fn 71 [] []],[.fn 72 [] []],[.fn 73 [] []],[.fn 74 [] []]]:List (List V)).length:=⟨by omega,rfl⟩
  repeat' (cbv; first|refine .y ?_|refine .n ?_|refine .s (fun hc=>?_) fun hc=>?_|refine .x ?_|refine .r ?_|refine .e fun v hv=>?_|refine .a fun v hv=>?_|refine .d ?_|refine .u fun vr vn hvr hvn hvl=>?_|fail)
  all_goals (try cbv)
  clear cl cc
  refine LoopQ.to (ι:=Int×Bool) (fun q=>⟨tab .undef [(1,.int .i64 p),(2,.int .i64 v),(3,.ptr 100 0),(6,.ptr 101 0),(19,.sl true 1 [[.fn 71 [] []],[.fn 72 [] []],[.fn 73 [] []],[.fn 74 [] []]]),(20,.int .i64 4),(21,.int .i64 q.1)],
      tab .dead [(100,.box [.sref 112 0 (L rp),.sref 113 0 (L rg),.sref 114 0 (L rq),.sref 115 0 (L rm),.sl q.2 1 rl,.int .i64 c0,.int .i64 c1,.int .i64 c2,.int .i64 c3,.sl false 1 r0,.sl false 1 r1,.sl false 1 r2,.sl false 1 r3,.sl false 2 rt,.int .i64 ck,.int .i64 pr]),
        (101,.box [.nils 1,.nils 5,.nils 13,.nils 2,.nils 1,.int .i64 0,.int .i64 0,.int .i64 0,.int .i64 0,.nils 1,.nils 1,.nils 1,.nils 1,.nils 2,.int .i64 0,.int .i64 0]),(112,.rows 1 rp),(113,.rows 5 rg),(114,.rows 13 rq),(115,.rows 2 rm)]⟩)
    (fun q=>(q=(0,true))∨(q=(1,false)∧N0=0)∨(q=(2,false)∧N0=0∧L0=[])∨(q=(3,false)∧N0=0∧L0=[]∧G0=[])∨(q=(4,false)∧stQ r=S0∧w=0)) (fun q=>(4 - q.1).toNat) (0,true) (.inl rfl) rfl fun q hq A hA=>?_
  rcases hq with rfl|⟨rfl,e0⟩|⟨rfl,e0,e1⟩|⟨rfl,e0,e1,e2⟩|⟨rfl,e0,rfl⟩
  · obtain ⟨t,z,ct,hz0,hz1⟩:=src0
    clear src1 src2 src3
    by_cases hz:z=0
    · obtain ⟨et,e9⟩:=hz0 hz
      subst hz
      rw [et,← hS0,hS] at ct
      clear hz1 hz0 key
      repeat' (cbv; first|refine .y ?_|refine .n ?_|refine .s (fun hc=>?_) fun hc=>?_|refine CanQ.to k0 ?_|refine Lt.to (by decide) rfl ?_|refine .x ?_|refine .r ?_|refine .e fun v hv=>?_|refine .a fun v hv=>?_|refine .d ?_|refine .u fun vr vn hvr hvn hvl=>?_|fail)
      all_goals (try cbv)
      exact hA (1,false) _ (.inr (.inl ⟨rfl,e9⟩)) (by dsimp only; omega) (by cbv)
    · obtain ⟨hsrc,e9⟩:=hz1 hz
      have cr:=key t z hsrc hz
      have er:runS t p z=r:=(congrArg Prod.fst e9).symm
      have ew:z=w:=(congrArg Prod.snd e9).symm
      subst ew
      rw [er] at cr
      rw [hS] at ct
      clear key hz0 hz1 hsrc e9 er hS0 hS
      obtain ⟨tprog,tgs,tps,tms,tgl,tc0,tc1,tc2,tc3,tw0,tw1,tw2,tw3,tts,tck,tpr⟩:=t
      obtain ⟨trp,trg,trq,trm,trl,tr0,tr1,tr2,tr3,trt,⟨h_trp,s_trp,l_trp⟩,⟨h_trg,s_trg,l_trg⟩,⟨h_trq,s_trq,l_trq⟩,⟨h_trm,s_trm,l_trm⟩,⟨h_trl,s_trl,l_trl⟩,⟨h_tr0,s_tr0,l_tr0⟩,⟨h_tr1,s_tr1,l_tr1⟩,⟨h_tr2,s_tr2,l_tr2⟩,⟨h_tr3,s_tr3,l_tr3⟩,⟨h_trt,s_trt,l_trt⟩,hst_t⟩:=stR tprog tgs tps tms tgl tc0 tc1 tc2 tc3 tw0 tw1 tw2 tw3 tts tck tpr
      obtain ⟨uprog,ugs,ups,ums,ugl,uc0,uc1,uc2,uc3,uw0,uw1,uw2,uw3,uts,uck,upr⟩:=r
      obtain ⟨urp,urg,urq,urm,url,ur0,ur1,ur2,ur3,urt,⟨h_urp,s_urp,l_urp⟩,⟨h_urg,s_urg,l_urg⟩,⟨h_urq,s_urq,l_urq⟩,⟨h_urm,s_urm,l_urm⟩,⟨h_url,s_url,l_url⟩,⟨h_ur0,s_ur0,l_ur0⟩,⟨h_ur1,s_ur1,l_ur1⟩,⟨h_ur2,s_ur2,l_ur2⟩,⟨h_ur3,s_ur3,l_ur3⟩,⟨h_urt,s_urt,l_urt⟩,hst_u⟩:=stR uprog ugs ups ums ugl uc0 uc1 uc2 uc3 uw0 uw1 uw2 uw3 uts uck upr
      rw [stQ_mk,← h_trp,← h_trg,← h_trq,← h_trm,← h_trl,← h_tr0,← h_tr1,← h_tr2,← h_tr3,← h_trt] at ct
      rw [stQ_mk,stQ_mk,← h_trp,← h_trg,← h_trq,← h_trm,← h_trl,← h_tr0,← h_tr1,← h_tr2,← h_tr3,← h_trt,← h_urp,← h_urg,← h_urq,← h_urm,← h_url,← h_ur0,← h_ur1,← h_ur2,← h_ur3,← h_urt] at cr
      rw [stQ_mk,← h_urp,← h_urg,← h_urq,← h_urm,← h_url,← h_ur0,← h_ur1,← h_ur2,← h_ur3,← h_urt] at hQ
      clear hst_t hst_u h_trp h_trg h_trq h_trm h_trl h_tr0 h_tr1 h_tr2 h_tr3 h_trt h_urp h_urg h_urq h_urm h_url h_ur0 h_ur1 h_ur2 h_ur3 h_urt
      clear l_trp l_trg l_trq l_trm l_trl l_tr0 l_tr1 l_tr2 l_tr3 l_trt l_urp l_urg l_urq l_urm l_url l_ur0 l_ur1 l_ur2 l_ur3 l_urt
      repeat' (cbv; first|refine .y ?_|refine .n ?_|refine .s (fun hc=>?_) fun hc=>?_|refine CanQ.to k0 ?_|refine Lt.to (by decide) rfl ?_|refine .x ?_|refine .r ?_|refine .e fun v hv=>?_|refine .a fun v hv=>?_|refine .d ?_|refine .u fun vr vn hvr hvn hvl=>?_|fail)
      all_goals (try cbv)
      (refine hQ _ ⟨?_,?_,?_,?_,?_⟩ <;> (try cbv) <;> (repeat' first|exact True.intro|exact rfl|assumption|exact FrR.mk rfl|exact FrS.mk rfl|(rw [hL]; rfl)|refine ⟨?_,?_⟩|fail))
  · obtain ⟨t,z,ct,hz0,hz1⟩:=src1 e0
    clear src0 src1 src2 src3
    by_cases hz:z=0
    · obtain ⟨et,e9⟩:=hz0 hz
      subst hz
      rw [et,← hS0,hS] at ct
      clear hz1 hz0 key
      repeat' (cbv; first|refine .y ?_|refine .n ?_|refine .s (fun hc=>?_) fun hc=>?_|refine CanQ.to k1 ?_|refine Lt.to (by decide) rfl ?_|refine .x ?_|refine .r ?_|refine .e fun v hv=>?_|refine .a fun v hv=>?_|refine .d ?_|refine .u fun vr vn hvr hvn hvl=>?_|fail)
      all_goals (try cbv)
      exact hA (2,false) _ (.inr (.inr (.inl ⟨rfl,e0,e9⟩))) (by dsimp only; omega) (by cbv)
    · obtain ⟨hsrc,e9⟩:=hz1 hz
      have cr:=key t z hsrc hz
      have er:runS t p z=r:=(congrArg Prod.fst e9).symm
      have ew:z=w:=(congrArg Prod.snd e9).symm
      subst ew
      rw [er] at cr
      rw [hS] at ct
      clear key hz0 hz1 hsrc e9 er hS0 hS
      obtain ⟨tprog,tgs,tps,tms,tgl,tc0,tc1,tc2,tc3,tw0,tw1,tw2,tw3,tts,tck,tpr⟩:=t
      obtain ⟨trp,trg,trq,trm,trl,tr0,tr1,tr2,tr3,trt,⟨h_trp,s_trp,l_trp⟩,⟨h_trg,s_trg,l_trg⟩,⟨h_trq,s_trq,l_trq⟩,⟨h_trm,s_trm,l_trm⟩,⟨h_trl,s_trl,l_trl⟩,⟨h_tr0,s_tr0,l_tr0⟩,⟨h_tr1,s_tr1,l_tr1⟩,⟨h_tr2,s_tr2,l_tr2⟩,⟨h_tr3,s_tr3,l_tr3⟩,⟨h_trt,s_trt,l_trt⟩,hst_t⟩:=stR tprog tgs tps tms tgl tc0 tc1 tc2 tc3 tw0 tw1 tw2 tw3 tts tck tpr
      obtain ⟨uprog,ugs,ups,ums,ugl,uc0,uc1,uc2,uc3,uw0,uw1,uw2,uw3,uts,uck,upr⟩:=r
      obtain ⟨urp,urg,urq,urm,url,ur0,ur1,ur2,ur3,urt,⟨h_urp,s_urp,l_urp⟩,⟨h_urg,s_urg,l_urg⟩,⟨h_urq,s_urq,l_urq⟩,⟨h_urm,s_urm,l_urm⟩,⟨h_url,s_url,l_url⟩,⟨h_ur0,s_ur0,l_ur0⟩,⟨h_ur1,s_ur1,l_ur1⟩,⟨h_ur2,s_ur2,l_ur2⟩,⟨h_ur3,s_ur3,l_ur3⟩,⟨h_urt,s_urt,l_urt⟩,hst_u⟩:=stR uprog ugs ups ums ugl uc0 uc1 uc2 uc3 uw0 uw1 uw2 uw3 uts uck upr
      rw [stQ_mk,← h_trp,← h_trg,← h_trq,← h_trm,← h_trl,← h_tr0,← h_tr1,← h_tr2,← h_tr3,← h_trt] at ct
      rw [stQ_mk,stQ_mk,← h_trp,← h_trg,← h_trq,← h_trm,← h_trl,← h_tr0,← h_tr1,← h_tr2,← h_tr3,← h_trt,← h_urp,← h_urg,← h_urq,← h_urm,← h_url,← h_ur0,← h_ur1,← h_ur2,← h_ur3,← h_urt] at cr
      rw [stQ_mk,← h_urp,← h_urg,← h_urq,← h_urm,← h_url,← h_ur0,← h_ur1,← h_ur2,← h_ur3,← h_urt] at hQ
      clear hst_t hst_u h_trp h_trg h_trq h_trm h_trl h_tr0 h_tr1 h_tr2 h_tr3 h_trt h_urp h_urg h_urq h_urm h_url h_ur0 h_ur1 h_ur2 h_ur3 h_urt
      clear l_trp l_trg l_trq l_trm l_trl l_tr0 l_tr1 l_tr2 l_tr3 l_trt l_urp l_urg l_urq l_urm l_url l_ur0 l_ur1 l_ur2 l_ur3 l_urt
      repeat' (cbv; first|refine .y ?_|refine .n ?_|refine .s (fun hc=>?_) fun hc=>?_|refine CanQ.to k1 ?_|refine Lt.to (by decide) rfl ?_|refine .x ?_|refine .r ?_|refine .e fun v hv=>?_|refine .a fun v hv=>?_|refine .d ?_|refine .u fun vr vn hvr hvn hvl=>?_|fail)
      all_goals (try cbv)
      (refine hQ _ ⟨?_,?_,?_,?_,?_⟩ <;> (try cbv) <;> (repeat' first|exact True.intro|exact rfl|assumption|exact FrR.mk rfl|exact FrS.mk rfl|(rw [hL]; rfl)|refine ⟨?_,?_⟩|fail))
  · obtain ⟨t,z,ct,hz0,hz1⟩:=src2 e0 e1
    clear src0 src1 src2 src3
    by_cases hz:z=0
    · obtain ⟨et,e9⟩:=hz0 hz
      subst hz
      rw [et,← hS0,hS] at ct
      clear hz1 hz0 key
      repeat' (cbv; first|refine .y ?_|refine .n ?_|refine .s (fun hc=>?_) fun hc=>?_|refine CanQ.to k2 ?_|refine Lt.to (by decide) rfl ?_|refine .x ?_|refine .r ?_|refine .e fun v hv=>?_|refine .a fun v hv=>?_|refine .d ?_|refine .u fun vr vn hvr hvn hvl=>?_|fail)
      all_goals (try cbv)
      exact hA (3,false) _ (.inr (.inr (.inr (.inl ⟨rfl,e0,e1,e9⟩)))) (by dsimp only; omega) (by cbv)
    · obtain ⟨hsrc,e9⟩:=hz1 hz
      have cr:=key t z hsrc hz
      have er:runS t p z=r:=(congrArg Prod.fst e9).symm
      have ew:z=w:=(congrArg Prod.snd e9).symm
      subst ew
      rw [er] at cr
      rw [hS] at ct
      clear key hz0 hz1 hsrc e9 er hS0 hS
      obtain ⟨tprog,tgs,tps,tms,tgl,tc0,tc1,tc2,tc3,tw0,tw1,tw2,tw3,tts,tck,tpr⟩:=t
      obtain ⟨trp,trg,trq,trm,trl,tr0,tr1,tr2,tr3,trt,⟨h_trp,s_trp,l_trp⟩,⟨h_trg,s_trg,l_trg⟩,⟨h_trq,s_trq,l_trq⟩,⟨h_trm,s_trm,l_trm⟩,⟨h_trl,s_trl,l_trl⟩,⟨h_tr0,s_tr0,l_tr0⟩,⟨h_tr1,s_tr1,l_tr1⟩,⟨h_tr2,s_tr2,l_tr2⟩,⟨h_tr3,s_tr3,l_tr3⟩,⟨h_trt,s_trt,l_trt⟩,hst_t⟩:=stR tprog tgs tps tms tgl tc0 tc1 tc2 tc3 tw0 tw1 tw2 tw3 tts tck tpr
      obtain ⟨uprog,ugs,ups,ums,ugl,uc0,uc1,uc2,uc3,uw0,uw1,uw2,uw3,uts,uck,upr⟩:=r
      obtain ⟨urp,urg,urq,urm,url,ur0,ur1,ur2,ur3,urt,⟨h_urp,s_urp,l_urp⟩,⟨h_urg,s_urg,l_urg⟩,⟨h_urq,s_urq,l_urq⟩,⟨h_urm,s_urm,l_urm⟩,⟨h_url,s_url,l_url⟩,⟨h_ur0,s_ur0,l_ur0⟩,⟨h_ur1,s_ur1,l_ur1⟩,⟨h_ur2,s_ur2,l_ur2⟩,⟨h_ur3,s_ur3,l_ur3⟩,⟨h_urt,s_urt,l_urt⟩,hst_u⟩:=stR uprog ugs ups ums ugl uc0 uc1 uc2 uc3 uw0 uw1 uw2 uw3 uts uck upr
      rw [stQ_mk,← h_trp,← h_trg,← h_trq,← h_trm,← h_trl,← h_tr0,← h_tr1,← h_tr2,← h_tr3,← h_trt] at ct
      rw [stQ_mk,stQ_mk,← h_trp,← h_trg,← h_trq,← h_trm,← h_trl,← h_tr0,← h_tr1,← h_tr2,← h_tr3,← h_trt,← h_urp,← h_urg,← h_urq,← h_urm,← h_url,← h_ur0,← h_ur1,← h_ur2,← h_ur3,← h_urt] at cr
      rw [stQ_mk,← h_urp,← h_urg,← h_urq,← h_urm,← h_url,← h_ur0,← h_ur1,← h_ur2,← h_ur3,← h_urt] at hQ
      clear hst_t hst_u h_trp h_trg h_trq h_trm h_trl h_tr0 h_tr1 h_tr2 h_tr3 h_trt h_urp h_urg h_urq h_urm h_url h_ur0 h_ur1 h_ur2 h_ur3 h_urt
      clear l_trp l_trg l_trq l_trm l_trl l_tr0 l_tr1 l_tr2 l_tr3 l_trt l_urp l_urg l_urq l_urm l_url l_ur0 l_ur1 l_ur2 l_ur3 l_urt
      repeat' (cbv; first|refine .y ?_|refine .n ?_|refine .s (fun hc=>?_) fun hc=>?_|refine CanQ.to k2 ?_|refine Lt.to (by decide) rfl ?_|refine .x ?_|refine .r ?_|refine .e fun v hv=>?_|refine .a fun v hv=>?_|refine .d ?_|refine .u fun vr vn hvr hvn hvl=>?_|fail)
      all_goals (try cbv)
      (refine hQ _ ⟨?_,?_,?_,?_,?_⟩ <;> (try cbv) <;> (repeat' first|exact True.intro|exact rfl|assumption|exact FrR.mk rfl|exact FrS.mk rfl|(rw [hL]; rfl)|refine ⟨?_,?_⟩|fail))
  · obtain ⟨t,z,ct,hz0,hz1⟩:=src3 e0 e1 e2
    clear src0 src1 src2 src3
    by_cases hz:z=0
    · obtain ⟨et,e9⟩:=hz0 hz
      subst hz
      rw [et,← hS0,hS] at ct
      clear hz1 hz0 key
      repeat' (cbv; first|refine .y ?_|refine .n ?_|refine .s (fun hc=>?_) fun hc=>?_|refine CanQ.to k3 ?_|refine Lt.to (by decide) rfl ?_|refine .x ?_|refine .r ?_|refine .e fun v hv=>?_|refine .a fun v hv=>?_|refine .d ?_|refine .u fun vr vn hvr hvn hvl=>?_|fail)
      all_goals (try cbv)
      exact hA (4,false) _ (.inr (.inr (.inr (.inr ⟨rfl,by rw [hS0]; exact congrArg stQ (congrArg Prod.fst e9),congrArg Prod.snd e9⟩)))) (by dsimp only; omega) (by cbv)
    · obtain ⟨hsrc,e9⟩:=hz1 hz
      have cr:=key t z hsrc hz
      have er:runS t p z=r:=(congrArg Prod.fst e9).symm
      have ew:z=w:=(congrArg Prod.snd e9).symm
      subst ew
      rw [er] at cr
      rw [hS] at ct
      clear key hz0 hz1 hsrc e9 er hS0 hS
      obtain ⟨tprog,tgs,tps,tms,tgl,tc0,tc1,tc2,tc3,tw0,tw1,tw2,tw3,tts,tck,tpr⟩:=t
      obtain ⟨trp,trg,trq,trm,trl,tr0,tr1,tr2,tr3,trt,⟨h_trp,s_trp,l_trp⟩,⟨h_trg,s_trg,l_trg⟩,⟨h_trq,s_trq,l_trq⟩,⟨h_trm,s_trm,l_trm⟩,⟨h_trl,s_trl,l_trl⟩,⟨h_tr0,s_tr0,l_tr0⟩,⟨h_tr1,s_tr1,l_tr1⟩,⟨h_tr2,s_tr2,l_tr2⟩,⟨h_tr3,s_tr3,l_tr3⟩,⟨h_trt,s_trt,l_trt⟩,hst_t⟩:=stR tprog tgs tps tms tgl tc0 tc1 tc2 tc3 tw0 tw1 tw2 tw3 tts tck tpr
      obtain ⟨uprog,ugs,ups,ums,ugl,uc0,uc1,uc2,uc3,uw0,uw1,uw2,uw3,uts,uck,upr⟩:=r
      obtain ⟨urp,urg,urq,urm,url,ur0,ur1,ur2,ur3,urt,⟨h_urp,s_urp,l_urp⟩,⟨h_urg,s_urg,l_urg⟩,⟨h_urq,s_urq,l_urq⟩,⟨h_urm,s_urm,l_urm⟩,⟨h_url,s_url,l_url⟩,⟨h_ur0,s_ur0,l_ur0⟩,⟨h_ur1,s_ur1,l_ur1⟩,⟨h_ur2,s_ur2,l_ur2⟩,⟨h_ur3,s_ur3,l_ur3⟩,⟨h_urt,s_urt,l_urt⟩,hst_u⟩:=stR uprog ugs ups ums ugl uc0 uc1 uc2 uc3 uw0 uw1 uw2 uw3 uts uck upr
      rw [stQ_mk,← h_trp,← h_trg,← h_trq,← h_trm,← h_trl,← h_tr0,← h_tr1,← h_tr2,← h_tr3,← h_trt] at ct
      rw [stQ_mk,stQ_mk,← h_trp,← h_trg,← h_trq,← h_trm,← h_trl,← h_tr0,← h_tr1,← h_tr2,← h_tr3,← h_trt,← h_urp,← h_urg,← h_urq,← h_urm,← h_url,← h_ur0,← h_ur1,← h_ur2,← h_ur3,← h_urt] at cr
      rw [stQ_mk,← h_urp,← h_urg,← h_urq,← h_urm,← h_url,← h_ur0,← h_ur1,← h_ur2,← h_ur3,← h_urt] at hQ
      clear hst_t hst_u h_trp h_trg h_trq h_trm h_trl h_tr0 h_tr1 h_tr2 h_tr3 h_trt h_urp h_urg h_urq h_urm h_url h_ur0 h_ur1 h_ur2 h_ur3 h_urt
      clear l_trp l_trg l_trq l_trm l_trl l_tr0 l_tr1 l_tr2 l_tr3 l_trt l_urp l_urg l_urq l_urm l_url l_ur0 l_ur1 l_ur2 l_ur3 l_urt
      repeat' (cbv; first|refine .y ?_|refine .n ?_|refine .s (fun hc=>?_) fun hc=>?_|refine CanQ.to k3 ?_|refine Lt.to (by decide) rfl ?_|refine .x ?_|refine .r ?_|refine .e fun v hv=>?_|refine .a fun v hv=>?_|refine .d ?_|refine .u fun vr vn hvr hvn hvl=>?_|fail)
      all_goals (try cbv)
      (refine hQ _ ⟨?_,?_,?_,?_,?_⟩ <;> (try cbv) <;> (repeat' first|exact True.intro|exact rfl|assumption|exact FrR.mk rfl|exact FrS.mk rfl|(rw [hL]; rfl)|refine ⟨?_,?_⟩|fail))
  · rw [e0,hS] at hQ
    clear src0 src1 src2 src3 key e0 hS0 hS
    repeat' (cbv; first|refine .y ?_|refine .n ?_|refine .s (fun hc=>?_) fun hc=>?_|refine .x ?_|refine .r ?_|refine .e fun v hv=>?_|refine .a fun v hv=>?_|refine .d ?_|refine .u fun vr vn hvr hvn hvl=>?_|fail)
    all_goals (try cbv)
    (refine hQ _ ⟨?_,?_,?_,?_,?_⟩ <;> (try cbv) <;> (repeat' first|exact True.intro|exact rfl|assumption|exact FrR.mk rfl|exact FrS.mk rfl|(rw [hL]; rfl)|refine ⟨?_,?_⟩|fail))
end Go.Ab
