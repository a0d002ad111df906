/-
  Rings of lists; what is done to a state: plainly.
  Own states: names of their rows; an element of an own slice that is written.
  What keeps a state one that may be: timers, Ps and Ms, what each G says; where a G is.
-/
import Derived.Test.YtkanpbjjabdalaaK16
import Derived.Test.YtkanpbjjabdalaaK21
set_option linter.all false
namespace Go.Ab
open Go
def mkR (s:Nat→Int) (h m:Int):RD:=⟨s 0,s 1,s 2,s 3,s 4,s 5,s 6,s 7,h,m⟩
theorem mkR_f {s:Nat→Int} {h m:Int} {j:Nat} (hj:j < 8):(mkR s h m).f j=s j:=by
  have:j=0∨j=1∨j=2∨j=3∨j=4∨j=5∨j=6∨j=7:=by omega
  rcases this with rfl|rfl|rfl|rfl|rfl|rfl|rfl|rfl <;> rfl
def atR (h:Int) (l:List Int):RD:=mkR (fun j=>l.getD (((j:Int) - h+8) % 8).toNat 0) h l.length
theorem RingIs.of {s s':Nat→Int} {h m:Int} {l:List Int} (r:RingIs s h m l) (e:∀ j,j < 8→s' j=s j):RingIs s' h m l :=
  ⟨r.h0,r.h1,r.m1,r.me,r.pos,fun j hj=>by rw [e j hj,r.at' j hj]⟩
theorem atR_is {h:Int} {l:List Int} (h0:0≤h) (h1:h < 8) (hl:l.length≤8) (hp:∀ x∈l,1≤x):RingIs (atR h l).f (atR h l).h (atR h l).n l :=
  ⟨h0,h1,hl,rfl,hp,fun j hj=>by
    show (mkR _ h _).f j=_
    rw [mkR_f hj]; rfl⟩
theorem ring_eq {r:RD} {l:List Int} (h:RingIs r.f r.h r.n l):r=atR r.h l:=by
  have e:=h.at'
  have e0:=e 0 (by omega); have e1:=e 1 (by omega); have e2:=e 2 (by omega); have e3:=e 3 (by omega)
  have e4:=e 4 (by omega); have e5:=e 5 (by omega); have e6:=e 6 (by omega); have e7:=e 7 (by omega)
  have em:=h.me
  obtain ⟨b0,b1,b2,b3,b4,b5,b6,b7,hh,n⟩:=r
  simp only [RD.f] at e0 e1 e2 e3 e4 e5 e6 e7 em
  simp only [atR,mkR,RD.mk.injEq]
  exact ⟨e0,e1,e2,e3,e4,e5,e6,e7,trivial,em⟩
theorem RingIs.uniq {s:Nat→Int} {h m:Int} {l l':List Int} (r:RingIs s h m l) (r':RingIs s h m l'):l=l':=by
  have hl:l.length=l'.length:=by have:=r.me; have:=r'.me; omega
  refine List.ext_getElem hl fun i h1 h2=>?_
  have m1:=r.m1
  have a:=r.idx (i:=i) (by omega) (by omega)
  have b:=r'.idx (i:=i) (by omega) (by omega)
  rw [a] at b
  simpa [List.getD_eq_getElem?_getD,h1,h2] using b
theorem mayR_of {r:RD} {l:List Int} (h:RingIs r.f r.h r.n l):mayR r=true∧listR r=l:=by
  have hm:=(mayR_iff r).2 h.may
  exact ⟨hm,(listR_is hm).uniq h⟩
theorem mayR_at {r:RD} (h:mayR r=true):r=atR r.h (listR r):=ring_eq (listR_is h)
theorem listR_pos {r:RD} (h:mayR r=true):∀ x∈listR r,1≤x:=(listR_is h).pos
theorem listR_n {r:RD} (h:mayR r=true):r.n=(listR r).length:=(listR_is h).me
theorem mayR_h {r:RD} (h:mayR r=true):0≤r.h∧r.h < 8:=⟨(listR_is h).h0,(listR_is h).h1⟩
def getP (s:SD) (p:Int):PD:=s.ps.getD (p.toNat - 1) default
def getG (s:SD) (g:Int):GD:=s.gs.getD (g.toNat - 1) default
def getM (s:SD) (m:Int):MD:=s.ms.getD (m.toNat - 1) ⟨0,0⟩
def setP (s:SD) (p:Int) (x:PD):SD:={ s with ps:=s.ps.set (p.toNat - 1) x }
def setM (s:SD) (m:Int) (x:MD):SD:={ s with ms:=s.ms.set (m.toNat - 1) x }
def setG (s:SD) (g:Int) (x:GD):SD:={ s with gs:=s.gs.set (g.toNat - 1) x }
def turnS (s:SD) (g st m:Int):SD :=
  let x:=getG s g
  setG s g { x with st:=st,m:=m,sq:=x.sq+1 }
structure OkS (s:SD):Prop where
  prog:mayP s.prog=true
  g1:1≤s.gs.length
  g2:s.gs.length≤1000
  p8:s.ps.length=8
  pr1:1≤s.pr
  pr8:s.pr≤8
  ms:s.ms.length≤1000
  ck:0≤s.ck∧s.ck < 2305843009213693952
  ts:mayT [] s.ts=true
  gs:∀ x∈s.gs,okG s.prog x=true
  hp:∀ (j:Nat) x,s.ps[j]?=some x→okP s j x=true
  hm:∀ (j:Nat) m,s.ms[j]?=some m→okMp s j m
  c0:okCt s.c0 s.w0=true
  c1:okCt s.c1 s.w1=true
  c2:okCt s.c2 s.w2=true
  c3:okCt s.c3 s.w3=true
  inR:∀ x∈runnables s,1≤x∧x≤s.gs.length
  inW:∀ x∈waiters s,1≤x∧x≤s.gs.length
  inT:∀ x∈onMs s true,1≤x∧x≤s.gs.length
  inF:∀ x∈onMs s false,1≤x∧x≤s.gs.length
  st:∀ n:Int,1≤n→n≤s.gs.length→standsB s n=true
theorem may_ok (s:SD):mayS s=true↔OkS s:=by
  unfold mayS holdsB
  simp only [Bool.and_eq_true,decide_eq_true_eq,List.all_eq_true,allI_iff,inB,List.mem_range]
  constructor
  · rintro ⟨a1,⟨a2,a3,a4,a5,a6,a7⟩,a8,a9,b1,⟨b2,b3⟩,b4,b5,b6,b7,b8,b9,d1,d2,d3⟩
    refine ⟨a1,a2,a3,a4,a5,a6,a7,a8,a9,b1,fun j x h=>by simpa using b2 j x h,fun j x h=>by simpa using b3 j x h,b4,b5,b6,b7,fun x h=>by simpa using b8 x h,fun x h=>by simpa using b9 x h,fun x h=>by simpa using d1 x h,fun x h=>by simpa using d2 x h,fun n h1 h2=>?_⟩
    have:=d3 (n.toNat - 1) (by omega)
    rwa [show ((n.toNat - 1:Nat):Int)+1=n by omega] at this
  · intro h
    exact ⟨h.prog,⟨h.g1,h.g2,h.p8,h.pr1,h.pr8,h.ms⟩,h.ck,h.ts,h.gs,⟨fun j x hx=>by simpa using h.hp j x hx,fun j x hx=>by simpa using h.hm j x hx⟩,h.c0,h.c1,h.c2,h.c3,fun x hx=>by simpa using h.inR x hx,fun x hx=>by simpa using h.inW x hx,fun x hx=>by simpa using h.inT x hx,fun x hx=>by simpa using h.inF x hx,fun j hj=>h.st _ (by omega) (by omega)⟩
theorem cnt_set {α:Type} (f:α→List Int) (n:Int):∀ {l:List α} {i:Nat} {a:α} (b:α),l[i]?=some a→((l.set i b).flatMap f).count n+(f a).count n=(l.flatMap f).count n+(f b).count n
  | [],_,_,_,h=>by simp at h
  | x::l,0,a,b,h=>by
    simp at h; subst h
    simp only [List.set_cons_zero,List.flatMap_cons,List.count_append]; omega
  | x::l,i+1,a,b,h=>by
    have:=cnt_set f n b (l:=l) (i:=i) (a:=a) (by simpa using h)
    simp only [List.set_cons_succ,List.flatMap_cons,List.count_append]; omega
def cR (s:SD) (n:Int):Nat:=(runnables s).count n
def cW (s:SD) (n:Int):Nat:=(waiters s).count n
def cM (s:SD) (w:Bool) (n:Int):Nat:=(onMs s w).count n
def onM1 (w:Bool) (m:MD):List Int:=if m.g≠0∧(decide (m.p≠0) == w)=true then [m.g] else []
theorem onMs_flat (s:SD) (w:Bool):onMs s w=s.ms.flatMap (onM1 w):=by
  unfold onMs
  induction s.ms with
  | nil=>rfl
  | cons m l ih =>
    rw [List.filter_cons,List.flatMap_cons,← ih]
    unfold onM1
    by_cases h:m.g≠0∧(decide (m.p≠0) == w)=true
    · rw [if_pos h,if_pos (by simpa using h)]; rfl
    · rw [if_neg h,if_neg (by simpa using h)]; rfl
theorem cM_set {s:SD} {m:Int} {x:MD} (hx:s.ms[m.toNat - 1]?=some x) (y:MD) (w:Bool) (n:Int):cM (setM s m y) w n+(onM1 w x).count n=cM s w n+(onM1 w y).count n:=by
  unfold cM
  rw [onMs_flat,onMs_flat]
  exact cnt_set (onM1 w) n y hx
theorem cR_set {s:SD} {p:Int} {x:PD} (hx:s.ps[p.toNat - 1]?=some x) (y:PD) (n:Int):cR (setP s p y) n+(queueOf x).count n=cR s n+(queueOf y).count n:=by
  have:=cnt_set queueOf n y hx
  unfold cR runnables setP
  simp only [List.count_append]
  omega
theorem getP_of {s:SD} {p:Int} (h:p.toNat - 1 < s.ps.length):s.ps[p.toNat - 1]?=some (getP s p):=by
  unfold getP; rw [List.getD_eq_getElem?_getD,List.getElem?_eq_getElem h]; rfl
theorem getG_of {s:SD} {p:Int} (h:p.toNat - 1 < s.gs.length):s.gs[p.toNat - 1]?=some (getG s p):=by
  unfold getG; rw [List.getD_eq_getElem?_getD,List.getElem?_eq_getElem h]; rfl
theorem getM_of {s:SD} {p:Int} (h:p.toNat - 1 < s.ms.length):s.ms[p.toNat - 1]?=some (getM s p):=by
  unfold getM; rw [List.getD_eq_getElem?_getD,List.getElem?_eq_getElem h]; rfl
theorem queue_count (x:PD) (n:Int):(queueOf x).count n=(if x.nx≠0∧x.nx=n then 1 else 0)+(listR x.r).count n:=by
  unfold queueOf
  by_cases h:x.nx=0
  · simp [h]
  · by_cases h2:x.nx=n
    · subst h2; simp [h]; omega
    · simp [h,h2]
theorem if_swap (n g:Int):(if g=n then 1 else 0:Nat)=if n=g then 1 else 0:=by
  by_cases e:n=g
  · rw [if_pos e,if_pos e.symm]
  · rw [if_neg e,if_neg fun h=>e h.symm]
end Go.Ab

namespace Go.Ab
open Go Go.Proofs
set_option maxRecDepth 100000
set_option maxHeartbeats 1000000 in
theorem c40Q (s:SD) (g st m:Int) (g1:1≤g) (g2:g.toNat≤s.gs.length) (hl:s.gs.length≤1000000) (hsq:-9000000000000000000≤(getG s g).sq∧(getG s g).sq≤9000000000000000000) :
    CallsV Try.prog 40 [.io (stQ s),.int .i64 g,.int .i64 st,.int .i64 m] (.tup []) [.io (stQ (turnS s g st m)),.undef,.undef,.undef] true:=by
  have hx:=getG_of (s:=s) (p:=g) (by omega)
  unfold turnS setG
  obtain ⟨x,hxe⟩ : ∃ x,x=getG s g:=⟨_,rfl⟩
  rw [← hxe] at hx hsq ⊢
  clear hxe
  obtain ⟨x0,x1,x2,x3,x4⟩:=x
  obtain ⟨prog,gs,ps,ms,gl,c0,c1,c2,c3,w0,w1,w2,w3,ts,ck,pr⟩:=s
  obtain ⟨rp,rg,rq,rm,rl,r0,r1,r2,r3,rt,⟨h_rp,s_rp,l_rp⟩,⟨h_rg,s_rg,l_rg⟩,⟨h_rq,s_rq,l_rq⟩,⟨h_rm,s_rm,l_rm⟩,⟨h_rl,s_rl,l_rl⟩,⟨h_r0,s_r0,l_r0⟩,⟨h_r1,s_r1,l_r1⟩,⟨h_r2,s_r2,l_r2⟩,⟨h_r3,s_r3,l_r3⟩,⟨h_rt,s_rt,l_rt⟩,hst_⟩:=stR prog gs ps ms gl c0 c1 c2 c3 w0 w1 w2 w3 ts ck pr
  dsimp only at g2 hl hx hsq ⊢
  rw [stQ_mk,stQ_mk,← h_rp,← h_rg,← h_rq,← h_rm,← h_rl,← h_r0,← h_r1,← h_r2,← h_r3,← h_rt]
  obtain ⟨rg',h_rg'⟩ : ∃ r,r=(gs.set (g.toNat - 1) ⟨x0,x1,st,m,x4+1⟩).map gC:=⟨_,rfl⟩
  rw [← h_rg']
  clear hst_ h_rp h_rq h_rm h_rl h_r0 h_r1 h_r2 h_r3 h_rt l_rp l_rq l_rm l_rl l_r0 l_r1 l_r2 l_r3 l_rt
  obtain ⟨i,hi⟩ : ∃ i:Int,i=g - 1:=⟨_,rfl⟩
  obtain ⟨k,hk⟩ : ∃ k:Nat,0+i.toNat=k:=⟨_,rfl⟩
  have hkl:k < rg.length:=by omega
  have gx:rg.getD k []=[.int .i64 x0,.int .i64 x1,.int .i64 x2,.int .i64 x3,.int .i64 x4]:=getD_rows (x:=⟨x0,x1,x2,x3,x4⟩) h_rg (by rw [show k=g.toNat - 1 by omega]; exact hx)
  obtain ⟨ra,ea,ga,la,qa⟩:=upd_row hkl gx 2 [.int .i64 st]
  obtain ⟨rb,eb,gb,lb,qb⟩:=upd_row (by omega) ga 3 [.int .i64 m]
  obtain ⟨v5,h5⟩ : ∃ v5,v5=x4+1:=⟨_,rfl⟩
  obtain ⟨rc,ec,gc,lc,qc⟩:=upd_row (by omega) gb 4 [.int .i64 v5]
  have hfin:rg'=rc:=by
    rw [h_rg',map_set,← h_rg,qc,qb,qa,List.set_set,List.set_set,show g.toNat - 1=k by omega,h5]; rfl
  subst hfin
  clear qa qb qc h_rg' hx h_rg
  refine callsV_l hD Try.func40 ok40 rfl rfl (by simp only [List.map_cons,List.map_nil,V.sh,V.shL,stL,stN,stK,stH,s_rp,s_rg,s_rq,s_rm,s_rl,s_r0,s_r1,s_r2,s_r3,s_rt]) fun P L Q hP hL hQ=>?_
  have lL:L rg=rg.length:=hL rg
  have lE:L rg=L rg':=by rw [hL,hL]; omega
  repeat' (cbv; first|refine .y ?_|refine .n ?_|refine .s (fun hc=>?_) fun hc=>?_|refine .x ?_|refine .r ?_|refine .e fun v hv=>?_|refine .a fun v hv=>?_|refine .d ?_|refine .u fun vr vn hvr hvn hvl=>?_|fail)
  all_goals (try cbv)
  (refine hQ _ ⟨?_,?_,?_,?_,?_⟩ <;> (try cbv) <;> (repeat' first|exact True.intro|exact rfl|assumption|exact FrR.mk rfl|exact FrS.mk rfl|(rw [hL]; rfl)|refine ⟨?_,?_⟩|fail))
set_option maxHeartbeats 1000000 in
theorem c40R (s:SD) (g st m:Int) (g1:1≤g) (g2:g.toNat≤s.gs.length) (hl:s.gs.length≤1000000) (hsq:-9000000000000000000≤(getG s g).sq∧(getG s g).sq≤9000000000000000000) :
    CallsV Try.prog 40 [.io (stR_ s),.int .i64 g,.int .i64 st,.int .i64 m] (.tup []) [.io (stR_ (turnS s g st m)),.undef,.undef,.undef] true:=by
  have hx:=getG_of (s:=s) (p:=g) (by omega)
  unfold turnS setG
  obtain ⟨x,hxe⟩ : ∃ x,x=getG s g:=⟨_,rfl⟩
  rw [← hxe] at hx hsq ⊢
  clear hxe
  obtain ⟨x0,x1,x2,x3,x4⟩:=x
  obtain ⟨prog,gs,ps,ms,gl,c0,c1,c2,c3,w0,w1,w2,w3,ts,ck,pr⟩:=s
  obtain ⟨rp,rg,rq,rm,rl,r0,r1,r2,r3,rt,⟨h_rp,s_rp,l_rp⟩,⟨h_rg,s_rg,l_rg⟩,⟨h_rq,s_rq,l_rq⟩,⟨h_rm,s_rm,l_rm⟩,⟨h_rl,s_rl,l_rl⟩,⟨h_r0,s_r0,l_r0⟩,⟨h_r1,s_r1,l_r1⟩,⟨h_r2,s_r2,l_r2⟩,⟨h_r3,s_r3,l_r3⟩,⟨h_rt,s_rt,l_rt⟩,hst_⟩:=stR prog gs ps ms gl c0 c1 c2 c3 w0 w1 w2 w3 ts ck pr
  dsimp only at g2 hl hx hsq ⊢
  rw [stR_mk,stR_mk,← h_rp,← h_rg,← h_rq,← h_rm,← h_rl,← h_r0,← h_r1,← h_r2,← h_r3,← h_rt]
  obtain ⟨rg',h_rg'⟩ : ∃ r,r=(gs.set (g.toNat - 1) ⟨x0,x1,st,m,x4+1⟩).map gC:=⟨_,rfl⟩
  rw [← h_rg']
  clear hst_ h_rp h_rq h_rm h_rl h_r0 h_r1 h_r2 h_r3 h_rt l_rp l_rq l_rm l_rl l_r0 l_r1 l_r2 l_r3 l_rt
  obtain ⟨i,hi⟩ : ∃ i:Int,i=g - 1:=⟨_,rfl⟩
  obtain ⟨k,hk⟩ : ∃ k:Nat,0+i.toNat=k:=⟨_,rfl⟩
  have hkl:k < rg.length:=by omega
  have gx:rg.getD k []=[.int .i64 x0,.int .i64 x1,.int .i64 x2,.int .i64 x3,.int .i64 x4]:=getD_rows (x:=⟨x0,x1,x2,x3,x4⟩) h_rg (by rw [show k=g.toNat - 1 by omega]; exact hx)
  obtain ⟨ra,ea,ga,la,qa⟩:=upd_row hkl gx 2 [.int .i64 st]
  obtain ⟨rb,eb,gb,lb,qb⟩:=upd_row (by omega) ga 3 [.int .i64 m]
  obtain ⟨v5,h5⟩ : ∃ v5,v5=x4+1:=⟨_,rfl⟩
  obtain ⟨rc,ec,gc,lc,qc⟩:=upd_row (by omega) gb 4 [.int .i64 v5]
  have hfin:rg'=rc:=by
    rw [h_rg',map_set,← h_rg,qc,qb,qa,List.set_set,List.set_set,show g.toNat - 1=k by omega,h5]; rfl
  subst hfin
  clear qa qb qc h_rg' hx h_rg
  refine callsV_l hD Try.func40 ok40 rfl rfl (by simp only [List.map_cons,List.map_nil,V.sh,V.shL,stL,stN,stK,stH,s_rp,s_rg,s_rq,s_rm,s_rl,s_r0,s_r1,s_r2,s_r3,s_rt]) fun P L Q hP hL hQ=>?_
  have lL:L rg=rg.length:=hL rg
  have lE:L rg=L rg':=by rw [hL,hL]; omega
  repeat' (cbv; first|refine .y ?_|refine .n ?_|refine .s (fun hc=>?_) fun hc=>?_|refine .x ?_|refine .r ?_|refine .e fun v hv=>?_|refine .a fun v hv=>?_|refine .d ?_|refine .u fun vr vn hvr hvn hvl=>?_|fail)
  all_goals (try cbv)
  (refine hQ _ ⟨?_,?_,?_,?_,?_⟩ <;> (try cbv) <;> (repeat' first|exact True.intro|exact rfl|assumption|exact FrR.mk rfl|exact FrS.mk rfl|(rw [hL]; rfl)|refine ⟨?_,?_⟩|fail))
end Go.Ab

namespace Go.Ab
open Go
theorem holds_keep {s t:SD} (hs:OkS s) (hpl:t.ps.length=s.ps.length) (hml:t.ms.length=s.ms.length) (hpr:t.pr=s.pr)
    (hP:∀ (j:Nat) x,t.ps[j]?=some x→∃ y,s.ps[j]?=some y∧x.m=y.m∧x.sq=y.sq∧mayR x.r=true∧((j:Int) < s.pr∨(x.nx=0∧x.r.n≤0)))
    (hM:∀ (j:Nat) x,t.ms[j]?=some x→∃ y,s.ms[j]?=some y∧x.p=y.p) :
    (∀ (j:Nat) x,t.ps[j]?=some x→okP t j x=true)∧(∀ (j:Nat) m,t.ms[j]?=some m→okMp t j m):=by
  have gM:∀ j,j < s.ms.length→(t.ms.getD j ⟨0,0⟩).p=(s.ms.getD j ⟨0,0⟩).p:=fun j hj=>by
    obtain ⟨x,hx⟩ : ∃ x,t.ms[j]?=some x:=⟨_,List.getElem?_eq_getElem (by omega)⟩
    obtain ⟨y,h1,h2⟩:=hM j x hx
    rw [getD_of hx,getD_of h1,h2]
  have gP:∀ j,j < s.ps.length→(t.ps.getD j default).m=(s.ps.getD j default).m:=fun j hj=>by
    obtain ⟨x,hx⟩ : ∃ x,t.ps[j]?=some x:=⟨_,List.getElem?_eq_getElem (by omega)⟩
    obtain ⟨y,h1,h2,_⟩:=hP j x hx
    rw [getD_of hx,getD_of h1,h2]
  constructor
  · intro j x hx
    obtain ⟨y,h1,h2,h3,h4,h5⟩:=hP j x hx
    have:=hs.hp j y h1
    unfold okP at this ⊢
    simp only [Bool.and_eq_true,decide_eq_true_eq] at this ⊢
    obtain ⟨_,hpp⟩:=this
    unfold okPp at hpp
    obtain ⟨a1,a2,a3,a4,a5,a6⟩:=hpp
    refine ⟨h4,?_⟩
    unfold okPp
    refine ⟨by omega,by omega,by omega,by rw [hml]; omega,?_,?_⟩
    · by_cases e:x.m=0
      · exact .inl e
      · refine .inr ?_
        rw [h2] at e ⊢
        rw [gM _ (by omega)]
        exact a5.resolve_left e
    · rw [hpr]
      rcases h5 with h|h
      · exact .inl h
      · rcases a6 with a|a
        · exact .inl a
        · exact .inr ⟨by omega,h.1,h.2⟩
  · intro j m hm
    obtain ⟨y,h1,h2⟩:=hM j m hm
    have:=hs.hm j y h1
    unfold okMp at this ⊢
    refine ⟨by omega,by rw [hpl]; omega,?_⟩
    by_cases e:m.p=0
    · exact .inl e
    · refine .inr ?_
      rw [h2] at e ⊢
      rw [gP _ (by omega)]
      exact this.2.2.resolve_left e
theorem stands_cnt (s:SD) (n:Int):standsB s n=true↔(1≤(getG s n).st∧(getG s n).st≤5)∧cR s n=(if (getG s n).st=1 then 1 else 0)∧cM s true n=(if (getG s n).st=2 then 1 else 0)∧cW s n=(if (getG s n).st=3 then 1 else 0)∧cM s false n=(if (getG s n).st=4 then 1 else 0) ∧
    (if (getG s n).st≠2∧(getG s n).st≠4 then (getG s n).m=0 else 1≤(getG s n).m∧(getG s n).m≤s.ms.length∧(getM s (getG s n).m).g=n):=by
  have q:∀ (a b c:Nat) (P:Prop) [Decidable P],((a:Int)=if P then 1 else 0)↔a=if P then 1 else 0:=fun a _ _ P _=>by split <;> omega
  unfold standsB timesL
  simp only [Bool.and_eq_true,decide_eq_true_eq]
  have e:s.gs.getD (n.toNat - 1) default=getG s n:=rfl
  rw [e]
  unfold cR cM cW
  rw [q _ 0 0,q _ 0 0,q _ 0 0,q _ 0 0]
  by_cases h:(getG s n).st≠2∧(getG s n).st≠4
  · rw [if_pos h,if_pos h]
    simp only [decide_eq_true_eq,and_assoc]
  · rw [if_neg h,if_neg h]
    simp only [decide_eq_true_eq,and_assoc]
    rfl
theorem cnt_mem {l:List Int} {n:Int}:n∈l↔0 < l.count n:=List.count_pos_iff.symm
theorem getG_set {s:SD} {g:Int} {x:GD} {n:Int} (h1:1≤g) (h2:g.toNat≤s.gs.length) (hn:1≤n):getG (setG s g x) n=if n=g then x else getG s n:=by
  unfold getG setG
  dsimp only
  by_cases e:n=g
  · subst e
    rw [if_pos rfl,List.getD_eq_getElem?_getD,List.getElem?_set_self (by omega)]; rfl
  · rw [if_neg e,List.getD_eq_getElem?_getD,List.getElem?_set_ne (by omega),← List.getD_eq_getElem?_getD]
theorem getM_set {s:SD} {g:Int} {x:MD} {n:Int} (h1:1≤g) (h2:g.toNat≤s.ms.length) (hn:1≤n):getM (setM s g x) n=if n=g then x else getM s n:=by
  unfold getM setM
  dsimp only
  by_cases e:n=g
  · subst e
    rw [if_pos rfl,List.getD_eq_getElem?_getD,List.getElem?_set_self (by omega)]; rfl
  · rw [if_neg e,List.getD_eq_getElem?_getD,List.getElem?_set_ne (by omega),← List.getD_eq_getElem?_getD]
theorem getP_set {s:SD} {g:Int} {x:PD} {n:Int} (h1:1≤g) (h2:g.toNat≤s.ps.length) (hn:1≤n):getP (setP s g x) n=if n=g then x else getP s n:=by
  unfold getP setP
  dsimp only
  by_cases e:n=g
  · subst e
    rw [if_pos rfl,List.getD_eq_getElem?_getD,List.getElem?_set_self (by omega)]; rfl
  · rw [if_neg e,List.getD_eq_getElem?_getD,List.getElem?_set_ne (by omega),← List.getD_eq_getElem?_getD]
theorem place_of {s:SD} (hm:mayS s=true) {g:Int} (h1:1≤g) (h2:g≤s.gs.length) {k n:Int}:placeS s g=(k,n)↔(g,k,n)∈puts s:=by
  have:=place_prog s g h1 h2 hm
  rw [← mem_atL,this]
  simp [eq_comm]
theorem puts_P {l:List PD} {i:Int} {g k n:Int}:(g,k,n)∈putsPs i l↔∃ (j:Nat) (p:PD),l[j]?=some p∧n=i+j+1∧((k=1∧p.nx=g∧g≠0)∨(k=2∧g∈listR p.r)):=by
  induction l generalizing i with
  | nil=>simp [putsPs]
  | cons p l ih =>
    simp only [putsPs,List.mem_append,ih]
    have h0 : (g,k,n)∈putsP i p↔n=i+1∧((k=1∧p.nx=g∧g≠0)∨(k=2∧g∈listR p.r)):=by
      unfold putsP
      simp only [List.mem_append,List.mem_map,Prod.mk.injEq]
      constructor
      · rintro (h|⟨x,hx,rfl,rfl,rfl⟩)
        · split at h
          · simp at h
          · rename_i hne
            simp only [List.mem_singleton,Prod.mk.injEq] at h
            obtain ⟨rfl,rfl,rfl⟩:=h
            exact ⟨rfl,.inl ⟨rfl,rfl,hne⟩⟩
        · exact ⟨rfl,.inr ⟨rfl,hx⟩⟩
      · rintro ⟨rfl,⟨rfl,rfl,h⟩|⟨rfl,h⟩⟩
        · rw [if_neg h]; simp
        · exact .inr ⟨g,h,rfl,rfl,rfl⟩
    rw [h0]
    constructor
    · rintro (⟨rfl,h⟩|⟨j,q,h1,h2,h3⟩)
      · exact ⟨0,p,rfl,by simp,h⟩
      · exact ⟨j+1,q,by simpa using h1,by omega,h3⟩
    · rintro ⟨j,q,h1,h2,h3⟩
      cases j with
      | zero=>simp at h1; subst h1; exact .inl ⟨by omega,h3⟩
      | succ j=>exact .inr ⟨j,q,by simpa using h1,by omega,h3⟩
theorem puts_mem {s:SD} {g k n:Int}:(g,k,n)∈puts s↔(g,k,n)∈putsPs 0 s.ps∨(g∈s.gl∧k=3∧n=0)∨(g∈s.w0∧k=5∧n=0)∨(g∈s.w1∧k=5∧n=1)∨(g∈s.w2∧k=5∧n=2)∨(g∈s.w3∧k=5∧n=3) ∨
    (g∈s.ts.map (·.g)∧k=6∧n=0)∨(g,k,n)∈putsMs 0 s.ms∨(g,k,n)∈putsGs 0 s.gs:=by
  have e:(g,k,n)∈puts s↔(k,n)∈atL (puts s) g:=mem_atL.symm
  have hr:∀ (l:List Int) (a b:Int),(k,n)∈List.replicate (l.count g) (a,b)↔g∈l∧k=a∧n=b:=fun l a b=>by
    rw [List.mem_replicate,Prod.mk.injEq]
    constructor
    · rintro ⟨h,rfl,rfl⟩; exact ⟨cnt_mem.2 (by omega),rfl,rfl⟩
    · rintro ⟨h,rfl,rfl⟩; exact ⟨by have:=cnt_mem.1 h; omega,rfl,rfl⟩
  rw [e,places_split]
  simp only [List.mem_append,hr,mem_atL]
end Go.Ab
