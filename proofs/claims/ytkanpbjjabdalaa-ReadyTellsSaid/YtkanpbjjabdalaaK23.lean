/-
  ring: a ring has a list; what is pushed, what is popped.
  ring: half of a ring; a ring of a list.
  ring: what each function does, of rings as data.
  ready: of own states: a G's turn; a G behind a ring, next.
  What keeps a state one that may be: timers, Ps and Ms, what each G says; where a G is.
-/
import Derived.Test.YtkanpbjjabdalaaK10
import Derived.Test.YtkanpbjjabdalaaK11
import Derived.Test.YtkanpbjjabdalaaK19
import Derived.Test.YtkanpbjjabdalaaK22
set_option linter.all false
namespace Go.Ab
open Go Go.Proofs
set_option maxRecDepth 100000
set_option maxHeartbeats 4000000 in
theorem c97_ok (s s':Nat->Int) (h m m' v:Int) (hm:May s h m) (m8:m < 8) (v1:1<=v) (hs:∀ j,j < 8->s' j=if j=idx h m then v else s j) (em:m'=m+1) :
  CallsV Try.prog 97 [.agg (ringC s h m),.int .i64 v] (.tup [.agg (ringC s' h m'),.bool true]) [.undef,.undef] true:=by
 refine callsV_q hD Try.func97 ok97 rfl rfl rfl fun P Q hP hQ=>?_
 have h0:=hm.1
 have h1:=hm.2.1
 have m0:=hm.2.2.1
 have hmay:=c54 s h m true (by simp [hm])
 try rw [<- hP] at hmay
 repeat' (cbv; first|refine .y ?_|refine .n ?_|refine .s (fun hc=>?_) fun hc=>?_|refine .gq hmay ?_|refine .a fun v hv=>?_|refine .d ?_|refine .u fun vr vn hvr hvn hvl=>?_|fail)
 all_goals (try cbv)
 obtain ⟨j,hj⟩ : ∃ j,j=(h+m) % 8:=⟨_,rfl⟩
 have hidx:idx h m=j.toNat:=by rw [idx,hj]
 have hcc:=c96 s h m m (by omega) (by omega) (by omega) (by omega) j hj
 rw [hidx] at hs
 have e0:=hs 0 (by omega)
 have e1:=hs 1 (by omega)
 have e2:=hs 2 (by omega)
 have e3:=hs 3 (by omega)
 have e4:=hs 4 (by omega)
 have e5:=hs 5 (by omega)
 have e6:=hs 6 (by omega)
 have e7:=hs 7 (by omega)
 clear hs
 rcases eight (j:=j) (by omega) (by omega) with e|e|e|e|e|e|e|e <;> subst e <;> refine CallQ.to (hP ▸ hcc) rfl (.inl rfl) ?_
 all_goals
  simp at e0 e1 e2 e3 e4 e5 e6 e7
  repeat' (cbv; first|refine .y ?_|refine .n ?_|refine .s (fun hc=>?_) fun hc=>?_|refine .a fun v hv=>?_|refine .d ?_|refine .u fun vr vn hvr hvn hvl=>?_|fail)
  all_goals (try cbv)
  have:m'=v:=by omega
  subst this
  exact hQ _ ⟨by simp only [ringC,e0,e1,e2,e3,e4,e5,e6,e7]; rfl,rfl,rfl,rfl,rfl⟩
theorem c97_no (s:Nat->Int) (h m v:Int) (b:Bool) (hb:b=true↔May s h m) (hn:b=false\/m=8\/v < 1) :
  CallsV Try.prog 97 [.agg (ringC s h m),.int .i64 v] (.tup [.agg (ringC (fun _=>0) 0 0),.bool false]) [.undef,.undef] true:=by
 refine callsV_q hD Try.func97 ok97 rfl rfl rfl fun P Q hP hQ=>?_
 have hmay:=c54 s h m b hb
 cases b with
 |false =>
  try rw [<- hP] at hmay
  repeat' (cbv; first|refine .y ?_|refine .n ?_|refine .s (fun hc=>?_) fun hc=>?_|refine .gq hmay ?_|refine .a fun v hv=>?_|refine .d ?_|refine .u fun vr vn hvr hvn hvl=>?_|fail)
  all_goals (try cbv)
  exact hQ _ ⟨rfl,rfl,rfl,rfl,rfl⟩
 |true =>
  simp only [Bool.true_eq_false,false_or] at hn
  try rw [<- hP] at hmay
  repeat' (cbv; first|refine .y ?_|refine .n ?_|refine .s (fun hc=>?_) fun hc=>?_|refine .gq hmay ?_|refine .a fun v hv=>?_|refine .d ?_|refine .u fun vr vn hvr hvn hvl=>?_|fail)
  all_goals (try cbv)
  all_goals first|exact hQ _ ⟨rfl,rfl,rfl,rfl,rfl⟩|(exfalso; omega)
theorem push_ok {s:Nat->Int} {h m v:Int} {l:List Int} (r:RingIs s h m l) (hl:l.length < 8) (hv:1<=v) :
  ∃ s' m',RingIs s' h m' (l ++ [v])/\CallsV Try.prog 97 [.agg (ringC s h m),.int .i64 v] (.tup [.agg (ringC s' h m'),.bool true]) [.undef,.undef] true :=
 ⟨_,_,r.push hl hv,c97_ok s _ h m _ v r.may (by have:=r.me; omega) hv (fun _ _=>rfl) rfl⟩
theorem push_no {s:Nat->Int} {h m v:Int} {l:List Int} (r:RingIs s h m l) (hn:l.length=8\/v < 1) :
  CallsV Try.prog 97 [.agg (ringC s h m),.int .i64 v] (.tup [.agg (ringC (fun _=>0) 0 0),.bool false]) [.undef,.undef] true :=
 c97_no s h m v true (by simp [r.may]) (.inr (by have:=r.me; omega))
set_option maxHeartbeats 4000000 in
theorem c102_ok (s s':Nat->Int) (h m h' m' x:Int) (hm:May s h m) (m8:0 < m) (hs:∀ j,j < 8->s' j=if j=h.toNat then 0 else s j) (em:m'=m - 1) (eh:h'=(h+1) % 8) (ex:x=s h.toNat) :
  CallsV Try.prog 102 [.agg (ringC s h m)] (.tup [.agg (ringC s' h' m'),.int .i64 x,.bool true]) [.undef] true:=by
 refine callsV_q hD Try.func102 ok102 rfl rfl rfl fun P Q hP hQ=>?_
 have h0:=hm.1
 have h1:=hm.2.1
 have m0:=hm.2.2.2.1
 have hmay:=c54 s h m true (by simp [hm])
 have e0:=hs 0 (by omega)
 have e1:=hs 1 (by omega)
 have e2:=hs 2 (by omega)
 have e3:=hs 3 (by omega)
 have e4:=hs 4 (by omega)
 have e5:=hs 5 (by omega)
 have e6:=hs 6 (by omega)
 have e7:=hs 7 (by omega)
 clear hs
 rcases eight (j:=h) (by omega) (by omega) with e|e|e|e|e|e|e|e <;> subst e
 all_goals
  simp at e0 e1 e2 e3 e4 e5 e6 e7 ex
  try rw [<- hP] at hmay
  repeat' (cbv; first|refine .y ?_|refine .n ?_|refine .s (fun hc=>?_) fun hc=>?_|refine .gq hmay ?_|refine .a fun v hv=>?_|refine .d ?_|refine .u fun vr vn hvr hvn hvl=>?_|fail)
  all_goals (try cbv)
  have hcc:=c96 s' _ m 1 h0 h1 (by omega) (by omega) _ eh
  refine CallQ.to (hP ▸ hcc) (by simp only [ringC,e0,e1,e2,e3,e4,e5,e6,e7]) (.inl rfl) ?_
  repeat' (cbv; first|refine .y ?_|refine .n ?_|refine .s (fun hc=>?_) fun hc=>?_|refine .a fun v hv=>?_|refine .d ?_|refine .u fun vr vn hvr hvn hvl=>?_|fail)
  all_goals (try cbv)
  have:m'=v:=by omega
  subst this
  exact hQ _ ⟨by simp only [ringC,ex,e0,e1,e2,e3,e4,e5,e6,e7]; rfl,rfl,rfl,rfl,rfl⟩
theorem pop_ok {s:Nat->Int} {h m x:Int} {l:List Int} (r:RingIs s h m (x::l)) :
  ∃ s' h' m',h'=(h+1) % 8/\RingIs s' h' m' l/\CallsV Try.prog 102 [.agg (ringC s h m)] (.tup [.agg (ringC s' h' m'),.int .i64 x,.bool true]) [.undef] true :=
 ⟨_,_,_,rfl,r.pop.1,c102_ok s _ h m _ _ x r.may (by have:=r.me; simp at this; omega) (fun _ _=>rfl) rfl rfl r.pop.2⟩
end Go.Ab

namespace Go.Ab
open Go Go.Proofs
set_option maxRecDepth 100000
theorem RingIs.same {s s':Nat->Int} {h m m':Int} {l:List Int} (r:RingIs s h m l) (r':RingIs s' h m' l):ringC s h m=ringC s' h m':=by
 have e:m=m':=by rw [r.me,r'.me]
 subst e
 exact ringC_congr fun j hj=>by rw [r.at' j hj,r'.at' j hj]
structure HalfI where
 i:Int
 s:Nat->Int
 h:Int
 m:Int
 rs:List (List V)
 n:Nat
set_option maxHeartbeats 4000000 in
theorem half_ok {s:Nat->Int} {h m:Int} {l:List Int} (r:RingIs s h m l) :
  ∃
   s' h' m',h'=(h+(m - m / 2)) % 8/\RingIs s' h' m' (l.drop (l.length - l.length / 2)) /\
   CallsV Try.prog 98 [.agg (ringC s h m)] (.tup [.agg (ringC s' h' m'),.own 1 ((l.take (l.length - l.length / 2)).map iC)]) [.undef] true:=by
 -- the rings on the way
 have way:∀ i,i<=l.length->∃ s' h' m',h'=(h+(i:Nat)) % 8/\RingIs s' h' m' (l.drop i):=by
  intro i
  induction i with
  |zero=>intro _; exact ⟨s,h,m,by have:=r.h0; have:=r.h1; omega,r⟩
  |succ i ih =>
   intro hi
   obtain ⟨s',h',m',e,r'⟩:=ih (by omega)
   rw [List.drop_eq_getElem_cons (by omega)] at r'
   exact ⟨_,_,_,by omega,r'.pop.1⟩
 obtain ⟨k,hk⟩ : ∃ k,k=l.length - l.length / 2:=⟨_,rfl⟩
 rw [<- hk]
 obtain ⟨s',h',m',e,r'⟩:=way k (by omega)
 replace e:h'=(h+(m - m / 2)) % 8:=by have:=r.me; omega
 refine ⟨s',h',m',e,r',?_⟩
 clear way
 refine callsV_q hD Try.func98 ok98 rfl rfl rfl fun P Q hP hQ=>?_
 have hmay:=c54 s h m true (by simp [r.may])
 have m0:0<=m:=by have:=r.me; omega
 have me:m.toNat=l.length:=by have:=r.me; omega
 have m1:=r.m1
 try rw [<- hP] at hmay
 repeat' (cbv; first|refine .y ?_|refine .n ?_|refine .s (fun hc=>?_) fun hc=>?_|refine .gq hmay ?_|refine .a fun v hv=>?_|refine .d ?_|refine .u fun vr vn hvr hvn hvl=>?_|fail)
 all_goals (try cbv)
 rename_i v0 hv0
 have hvk:v=k:=by omega
 refine LoopQ.to (ι:=HalfI) (fun p=>⟨tab .undef [(1,.ptr 100 0),(2,.ptr 101 0),(4,.sref 102 0 p.n),(17,.int .i64 v),(18,.int .i64 p.i)],tab .dead [(100,.box (ringC p.s p.h p.m)),(101,.box (ringC (fun _=>0) 0 0)),(102,.rows 1 p.rs)]⟩)
  (fun p=>0<=p.i/\p.i<=v/\RingIs p.s p.h p.m (l.drop p.i.toNat)/\p.h=(h+p.i) % 8/\p.rs=(l.take p.i.toNat).map iC/\p.n=p.rs.length) (fun p=>(v - p.i).toNat) ⟨0,s,h,m,[],0⟩
  ⟨by show (0:Int)<=0; omega,by show (0:Int)<=v; omega,r,by show h=(h+0) % 8; have:=r.h0; have:=r.h1; omega,rfl,rfl⟩ rfl fun p hp A hA=>?_
 obtain ⟨i,s1,h1,m1',rs,n⟩:=p
 obtain ⟨i0,i1,hr1,hh1,hrs,hn⟩:=hp
 dsimp only at i0 i1 hr1 hh1 hrs hn
 have hn':n=i.toNat:=by rw [hn,hrs]; simp; omega
 rcases (show i < v\/i=v by omega) with hi|hi
 ·rw [List.drop_eq_getElem_cons (by omega)] at hr1
  obtain ⟨s2,h2,m2,e2,hr2,hpop⟩:=pop_ok hr1
  obtain ⟨x,hx⟩ : ∃ x,x=l[i.toNat]'(by omega):=⟨_,rfl⟩
  rw [<- hx] at hpop
  try rw [<- hP] at hpop
  repeat' (cbv; first|refine .y ?_|refine .n ?_|refine .s (fun hc=>?_) fun hc=>?_|refine Lt.all (by refine ⟨hn,?_⟩; show (n+1) * 8<=_; omega) fun v hv=>?_|refine .gq hpop ?_|refine .a fun v hv=>?_|refine .d ?_|refine .u fun vr vn hvr hvn hvl=>?_|fail)
  all_goals (try cbv)
  refine hA ⟨v,s2,h2,m2,vr,vn⟩ _ ⟨by show 0<=v; omega,by show v<=_; omega,?_,by show h2=(h+v) % 8; omega,?_,?_⟩ (by show (_ - v).toNat < (_ - i).toNat; omega) rfl
  ·show RingIs s2 h2 m2 (l.drop v.toNat)
   rw [hv,show (i+1).toNat=i.toNat+1 by omega]; exact hr2
  ·show vr=(l.take v.toNat).map iC
   rw [hvr,hrs,hv,show (i+1).toNat=i.toNat+1 by omega,List.take_succ_eq_append_getElem (by omega),<- hx]
   simp [iC]
  ·exact hvn
 ·subst hi
  have hi:i.toNat=k:=by omega
  rw [hi] at hr1 hrs
  have he:h1=h':=by omega
  subst he
  have hc:=hr1.same r'
  repeat' (cbv; first|refine .y ?_|refine .n ?_|refine .s (fun hc=>?_) fun hc=>?_|refine .a fun v hv=>?_|refine .d ?_|refine .u fun vr vn hvr hvn hvl=>?_|fail)
  all_goals (try cbv)
  subst hn hrs
  exact hQ _ ⟨by rw [<- hc]; simp [t98,pack,RV.ev,resG,giveC,tab,pickc,ringC],rfl,by simp [t98,RV.ev,giveC,tab,V.notTup,V.cells,okGood,pickc,V.closed,V.fresh]; exact fresh_take,rfl,rfl⟩
end Go.Ab

namespace Go.Ab
open Go Go.Proofs
set_option maxRecDepth 100000
theorem ringC_at {s:Nat->Int} {h m:Int} {l:List Int} (r:RingIs s h m l):ringC s h m=rC (atR h l):=by
 have h1:RingIs (mkR s h m).f (mkR s h m).h (mkR s h m).n l:=r.of fun j hj=>mkR_f hj
 have h2:mkR s h m=atR h l:=ring_eq h1
 rw [<- h2]; rfl
theorem r_Push {r:RD} (hr:mayR r=true) (hl:(listR r).length < 8) {g:Int} (hg:1<=g) :
  CallsV Try.prog 97 [.agg (rC r),.int .i64 g] (.tup [.agg (rC (atR r.h (listR r ++ [g]))),.bool true]) [.undef,.undef] true:=by
 obtain ⟨s',m',h1,h2⟩:=push_ok (listR_is hr) hl hg
 rw [ringC_at h1,<- rC_ring] at h2
 exact h2
theorem r_Push8 {r:RD} (hr:mayR r=true) (hl:(listR r).length=8) (g:Int) :
  CallsV Try.prog 97 [.agg (rC r),.int .i64 g] (.tup [.agg (rC ⟨0,0,0,0,0,0,0,0,0,0⟩),.bool false]) [.undef,.undef] true:=by
 have h2:=push_no (v:=g) (listR_is hr) (.inl hl)
 rw [<- rC_ring] at h2
 exact h2
def halfK (l:List Int):Nat:=l.length - l.length / 2
theorem r_Half {r:RD} (hr:mayR r=true) :
  CallsV Try.prog 98 [.agg (rC r)] (.tup [.agg (rC (atR ((r.h+halfK (listR r)) % 8) ((listR r).drop (halfK (listR r))))),.own 1 (((listR r).take (halfK (listR r))).map iC)]) [.undef] true:=by
 obtain ⟨s',h',m',e,h1,h2⟩:=half_ok (listR_is hr)
 have hn:=listR_n hr
 rw [ringC_at h1,<- rC_ring,e,hn] at h2
 rw [show ((listR r).length:Int) - (listR r).length / 2=(halfK (listR r):Nat) by unfold halfK; omega] at h2
 exact h2
end Go.Ab

namespace Go.Ab
open Go Go.Proofs
set_option maxRecDepth 100000
variable {P:Program} {F:Fs}
set_option maxHeartbeats 1000000 in
theorem d40 (hP:P=Try.prog) (hF:F=fs) (o w:Bool) (s t:SD) (g st m:Int) (h:In F s.gs g) (hl:F.n s.gs<=1000000) (hq:-9000000000000000000<=(F.g s.gs g).sq/\(F.g s.gs g).sq<=9000000000000000000) (ht:t=turnS s g st m) :
  CallsV P 40 [.io (stF F (sk o) (sk w) s),.int .i64 g,.int .i64 st,.int .i64 m] (.tup []) [.io (stF F (sk o) (sk w) t),.undef,.undef,.undef] true:=by
 obtain ⟨x0,x1,x2,x3,x4,hx,ex0,ex1,ex2,ex3,ex4⟩:=elG (F.g s.gs g)
 rw [<- ex4] at hq
 have h1:=h.lo
 have h2:=h.hi
 cases o <;> cases w
 all_goals
  refine callsV_f hD Try.func40 ok40 hP hF (by simp only [List.map_cons,List.map_nil,V.sh,sh_F hF,sh_O hF,sh_F' hF,sh_S hF]) fun R hQ=>?_
  repeat' (cbv; first|refine .y ?_|refine .n ?_|refine .s (fun hc=>?_) fun hc=>?_|refine .v ?_|refine .r ?_|refine .e fun v hv=>?_|refine .a fun v hv=>?_|refine .d ?_|refine .fa ?_|refine .f1 ?_|refine .u fun vr vn hvr hvn hvl=>?_|fail)
  all_goals (try cbv)
  (refine hQ _ ⟨?_,?_,?_,?_,?_⟩ <;> (try cbv) <;> (repeat' first|exact True.intro|exact rfl|assumption|exact lenU|exact frM|exact FrR.mk rfl|exact FrS.mk rfl|refine ⟨?_,?_⟩|(subst_vars; rfl)|fail))
set_option maxHeartbeats 1000000 in
theorem d55 (hP:P=Try.prog) (hF:F=fs) (w:Bool) (s t:SD) (p g:Int) (h:In F s.ps p) (hl:F.n s.ps<=1000000) (hg:F.n s.gl<=1000000) (g1:1<=g) (hr:mayR (F.g s.ps p).r=true) (ht:t=layS s p g) :
  CallsV P 55 [.io (stF F .o (sk w) s),.int .i64 p,.int .i64 g] (.tup []) [.io (stF F .o (sk w) t),.undef,.undef] true:=by
 obtain ⟨x0,x1,x2,x3,hx,ex0,ex1,ex2,ex3⟩:=elP (F.g s.ps p)
 rw [<- ex2] at hr
 have h1:=h.lo
 have h2:=h.hi
 have hx':getP s p=⟨x0,x1,x2,x3⟩:=by rw [<- hx,hF]; rfl
 unfold layS at ht
 dsimp only at ht
 rw [hx'] at ht
 by_cases hb:(listR x2).length < 8
 ·rw [if_pos hb] at ht
  have k1:=r_Push hr hb g1
  obtain ⟨r,er⟩ : ∃ r,r=atR x2.h (listR x2 ++ [g]):=⟨_,rfl⟩
  rw [<- er,<- hP] at k1
  cases w
  all_goals
   refine callsV_f hD Try.func55 ok55 hP hF (by simp only [List.map_cons,List.map_nil,V.sh,sh_F hF,sh_O hF,sh_F' hF,sh_S hF]) fun R hQ=>?_
   repeat' (cbv; first|refine .y ?_|refine .n ?_|refine .s (fun hc=>?_) fun hc=>?_|refine .z k1 ?_|refine .v ?_|refine .r ?_|refine .e fun v hv=>?_|refine .a fun v hv=>?_|refine .d ?_|refine .fa ?_|refine .f1 ?_|refine .u fun vr vn hvr hvn hvl=>?_|fail)
   all_goals (try cbv)
   (refine hQ _ ⟨?_,?_,?_,?_,?_⟩ <;> (try cbv) <;> (repeat' first|exact True.intro|exact rfl|assumption|exact lenU|exact frM|exact FrR.mk rfl|exact FrS.mk rfl|refine ⟨?_,?_⟩|(subst_vars; rfl)|fail))
 ·have hb8:(listR x2).length=8:=by have:=listR_len x2; omega
  rw [if_neg hb] at ht
  have k1:=r_Push8 hr hb8 g
  have k2:=r_Half hr
  have e4:halfK (listR x2)=4:=by unfold halfK; omega
  rw [e4] at k2
  obtain ⟨r,er⟩ : ∃ r,r=atR ((x2.h+4) % 8) ((listR x2).drop 4):=⟨_,rfl⟩
  obtain ⟨hs,eh⟩ : ∃ hs,hs=(listR x2).take 4:=⟨_,rfl⟩
  have hn:F.n hs<=8:=by rw [hF,eh]; show ((List.length _:Nat):Int)<=_; rw [List.length_take]; omega
  have fg:Few F s.gl:=⟨by omega⟩
  have fh:Few F hs:=⟨by omega⟩
  have ha:Few F (F.a s.gl hs):=.app (by omega) (by omega)
  rw [show ((x2.h+(4:Nat)) % 8)=(x2.h+4) % 8 by rfl,<- er,<- eh,show hs.map iC=F.m iC hs by rw [hF]; rfl,<- hP] at k2
  rw [<- hP] at k1
  cases w
  all_goals
   refine callsV_f hD Try.func55 ok55 hP hF (by simp only [List.map_cons,List.map_nil,V.sh,sh_F hF,sh_O hF,sh_F' hF,sh_S hF]) fun R hQ=>?_
   repeat' (cbv; first|refine .y ?_|refine .n ?_|refine .s (fun hc=>?_) fun hc=>?_|refine .z k1 ?_|refine .z k2 ?_|refine .v ?_|refine .r ?_|refine .e fun v hv=>?_|refine .a fun v hv=>?_|refine .d ?_|refine .fa ?_|refine .f1 ?_|refine .u fun vr vn hvr hvn hvl=>?_|fail)
   all_goals (try cbv)
   (refine hQ _ ⟨?_,?_,?_,?_,?_⟩ <;> (try cbv) <;> (repeat' first|exact True.intro|exact rfl|assumption|exact lenU|exact frM|exact FrR.mk rfl|exact FrS.mk rfl|refine ⟨?_,?_⟩|(subst_vars; rfl)|fail))
set_option maxHeartbeats 1000000 in
theorem d41 (hP:P=Try.prog) (hF:F=fs) (w:Bool) (s t:SD) (p g:Int) (h:In F s.ps p) (hl:F.n s.ps<=1000000) (hg:F.n s.gl<=1000000) (hr:mayR (F.g s.ps p).r=true) (hn:(F.g s.ps p).nx=0\/1<=(F.g s.ps p).nx) (ht:t=nextS s p g) :
  CallsV P 41 [.io (stF F .o (sk w) s),.int .i64 p,.int .i64 g] (.tup []) [.io (stF F .o (sk w) t),.undef,.undef] true:=by
 obtain ⟨x0,x1,x2,x3,hx,ex0,ex1,ex2,ex3⟩:=elP (F.g s.ps p)
 rw [<- ex2] at hr
 rw [<- ex1] at hn
 have h1:=h.lo
 have h2:=h.hi
 have hx':getP s p=⟨x0,x1,x2,x3⟩:=by rw [<- hx,hF]; rfl
 unfold nextS at ht
 dsimp only at ht
 rw [hx'] at ht
 by_cases hb:x1=0
 ·rw [if_pos hb] at ht
  subst hb
  cases w
  all_goals
   refine callsV_f hD Try.func41 ok41 hP hF (by simp only [List.map_cons,List.map_nil,V.sh,sh_F hF,sh_O hF,sh_F' hF,sh_S hF]) fun R hQ=>?_
   repeat' (cbv; first|refine .y ?_|refine .n ?_|refine .s (fun hc=>?_) fun hc=>?_|refine .v ?_|refine .r ?_|refine .e fun v hv=>?_|refine .a fun v hv=>?_|refine .d ?_|refine .fa ?_|refine .f1 ?_|refine .u fun vr vn hvr hvn hvl=>?_|fail)
   all_goals (try cbv)
   (refine hQ _ ⟨?_,?_,?_,?_,?_⟩ <;> (try cbv) <;> (repeat' first|exact True.intro|exact rfl|assumption|exact lenU|exact frM|exact FrR.mk rfl|exact FrS.mk rfl|refine ⟨?_,?_⟩|(subst_vars; rfl)|fail))
 ·rw [if_neg hb] at ht
  have hu:setP s p ⟨x0,g,x2,x3⟩={ s with ps:=F.u s.ps p ⟨x0,g,x2,x3⟩ }:=by rw [hF]; rfl
  rw [hu] at ht
  have k1:=d55 hP hF w { s with ps:=F.u s.ps p ⟨x0,g,x2,x3⟩ } t p x1 (h.u (y:=⟨x0,g,x2,x3⟩)) (by rw [nU hF]; exact hl) hg (by omega) (by rw [gU hF h]; exact hr) ht
  cases w
  all_goals
   refine callsV_f hD Try.func41 ok41 hP hF (by simp only [List.map_cons,List.map_nil,V.sh,sh_F hF,sh_O hF,sh_F' hF,sh_S hF]) fun R hQ=>?_
   repeat' (cbv; first|refine .y ?_|refine .n ?_|refine .s (fun hc=>?_) fun hc=>?_|refine .z k1 ?_|refine .v ?_|refine .r ?_|refine .e fun v hv=>?_|refine .a fun v hv=>?_|refine .d ?_|refine .fa ?_|refine .f1 ?_|refine .u fun vr vn hvr hvn hvl=>?_|fail)
   all_goals (try cbv)
   (refine hQ _ ⟨?_,?_,?_,?_,?_⟩ <;> (try cbv) <;> (repeat' first|exact True.intro|exact rfl|assumption|exact lenU|exact frM|exact FrR.mk rfl|exact FrS.mk rfl|refine ⟨?_,?_⟩|(subst_vars; rfl)|fail))
end Go.Ab

namespace Go.Ab
open Go
theorem ahead_trans {a b c:TD} (h1:aheadP a b) (h2:aheadP b c):aheadP a c:=by
 unfold aheadP at *; omega
theorem last_ahead:∀ {pre:List TD} {x:TD},pre.Pairwise aheadP->((match pre.getLast? with|none=>true|some y=>decide (aheadP y x))=true↔∀ y∈pre,aheadP y x)
 |[],x,_=>by simp
 |a :: l,x,h=>by
  rw [List.getLast?_eq_some_getLast (by simp)]
  simp only [decide_eq_true_eq]
  constructor
  ·intro hl y hy
   have hd:(a::l).dropLast ++ [(a::l).getLast (by simp)]=a::l:=List.dropLast_concat_getLast (by simp)
   rw [<- hd] at hy h
   rcases List.mem_append.1 hy with hy|hy
   ·have:=(List.pairwise_append.1 h).2.2 y hy _ (List.mem_singleton.2 rfl)
    exact ahead_trans this hl
   ·rw [List.mem_singleton.1 hy]; exact hl
  ·intro hall; exact hall _ (List.getLast_mem _)
theorem mayT_iff:∀ {l pre:List TD},pre.Pairwise aheadP->(mayT pre l=true↔(∀ x∈l,okT x=true)/\(pre ++ l).Pairwise aheadP/\(∀ x∈l,∀ y∈pre,y.g≠x.g)/\(l.map (·.g)).Nodup)
 |[],pre,h=>by simp [mayT,h]
 |x :: l,pre,h=>by
  rw [mayT]
  simp only [Bool.and_eq_true,List.all_eq_true,decide_eq_true_eq]
  have key:(∀ y∈pre,aheadP y x)↔(pre ++ [x]).Pairwise aheadP:=by
   rw [List.pairwise_append]
   exact ⟨fun q=>⟨h,List.pairwise_singleton _ _,fun y hy z hz=>by rw [List.mem_singleton.1 hz]; exact q y hy⟩,fun q y hy=>q.2.2 y hy x (by simp)⟩
  constructor
  ·rintro ⟨⟨⟨h1,h2'⟩,h3⟩,h4⟩
   have h2:=(last_ahead h).1 h2'
   obtain ⟨a1,a2,a3,a4⟩:=(mayT_iff (key.1 h2)).1 h4
   refine ⟨fun y hy=>?_,by simpa using a2,fun y hy z hz=>?_,?_⟩
   ·rcases List.mem_cons.1 hy with rfl|hy
    ·exact h1
    ·exact a1 y hy
   ·rcases List.mem_cons.1 hy with rfl|hy
    ·exact h3 z hz
    ·exact a3 y hy z (by simp [hz])
   ·rw [List.map_cons,List.nodup_cons]
    refine ⟨fun hm=>?_,a4⟩
    obtain ⟨y,hy,e⟩:=List.mem_map.1 hm
    exact a3 y hy x (by simp) e.symm
  ·rintro ⟨a1,a2,a3,a4⟩
   have h2:∀ y∈pre,aheadP y x:=fun y hy=>(List.pairwise_append.1 a2).2.2 y hy x (by simp)
   rw [List.map_cons,List.nodup_cons] at a4
   refine ⟨⟨⟨a1 x (by simp),(last_ahead h).2 h2⟩,fun y hy=>a3 x (by simp) y hy⟩,(mayT_iff (key.1 h2)).2 ⟨fun y hy=>a1 y (by simp [hy]),by simpa using a2,fun y hy z hz=>?_,a4.2⟩⟩
   rcases List.mem_append.1 hz with hz|hz
   ·exact a3 y (by simp [hy]) z hz
   ·rw [List.mem_singleton.1 hz]
    intro e
    exact a4.1 (List.mem_map.2 ⟨y,hy,e.symm⟩)
theorem mayT_filter {l:List TD} (h:mayT [] l=true) (f:TD->Bool):mayT [] (l.filter f)=true:=by
 obtain ⟨a1,a2,_,a4⟩:=(mayT_iff (List.Pairwise.nil)).1 h
 refine (mayT_iff (List.Pairwise.nil)).2 ⟨fun x hx=>a1 x (List.mem_filter.1 hx).1,?_,by simp,?_⟩
 ·simp only [List.nil_append] at a2 ⊢
  exact a2.filter _
 ·exact (List.Sublist.map _ List.filter_sublist).nodup a4
theorem holds_keep {s t:SD} (hs:OkS s) (hpl:t.ps.length=s.ps.length) (hml:t.ms.length=s.ms.length) (hpr:t.pr=s.pr)
  (hP:∀ (j:Nat) x,t.ps[j]?=some x->∃ y,s.ps[j]?=some y/\x.m=y.m/\x.sq=y.sq/\mayR x.r=true/\((j:Int) < s.pr\/(x.nx=0/\x.r.n<=0)))
  (hM:∀ (j:Nat) x,t.ms[j]?=some x->∃ y,s.ms[j]?=some y/\x.p=y.p) :
  (∀ (j:Nat) x,t.ps[j]?=some x->okP t j x=true)/\(∀ (j:Nat) m,t.ms[j]?=some m->okMp t j m):=by
 have gM:∀ j,j < s.ms.length->(t.ms.getD j ⟨0,0⟩).p=(s.ms.getD j ⟨0,0⟩).p:=fun j hj=>by
  obtain ⟨x,hx⟩ : ∃ x,t.ms[j]?=some x:=⟨_,List.getElem?_eq_getElem (by omega)⟩
  obtain ⟨y,h1,h2⟩:=hM j x hx
  rw [getD_of hx,getD_of h1,h2]
 have gP:∀ j,j < s.ps.length->(t.ps.getD j default).m=(s.ps.getD j default).m:=fun j hj=>by
  obtain ⟨x,hx⟩ : ∃ x,t.ps[j]?=some x:=⟨_,List.getElem?_eq_getElem (by omega)⟩
  obtain ⟨y,h1,h2,_⟩:=hP j x hx
  rw [getD_of hx,getD_of h1,h2]
 constructor
 ·intro j x hx
  obtain ⟨y,h1,h2,h3,h4,h5⟩:=hP j x hx
  have:=hs.hp j y h1
  unfold okP at this ⊢
  simp only [Bool.and_eq_true,decide_eq_true_eq] at this ⊢
  obtain ⟨_,hpp⟩:=this
  unfold okPp at hpp
  obtain ⟨a1,a2,a3,a4,a5,a6⟩:=hpp
  refine ⟨h4,?_⟩
  unfold okPp
  refine ⟨by omega,by omega,by omega,by rw [hml]; omega,?_,?_⟩
  ·by_cases e:x.m=0
   ·exact .inl e
   ·refine .inr ?_
    rw [h2] at e ⊢
    rw [gM _ (by omega)]
    exact a5.resolve_left e
  ·rw [hpr]
   rcases h5 with h|h
   ·exact .inl h
   ·rcases a6 with a|a
    ·exact .inl a
    ·exact .inr ⟨by omega,h.1,h.2⟩
 ·intro j m hm
  obtain ⟨y,h1,h2⟩:=hM j m hm
  have:=hs.hm j y h1
  unfold okMp at this ⊢
  refine ⟨by omega,by rw [hpl]; omega,?_⟩
  by_cases e:m.p=0
  ·exact .inl e
  ·refine .inr ?_
   rw [h2] at e ⊢
   rw [gP _ (by omega)]
   exact this.2.2.resolve_left e
theorem stands_cnt (s:SD) (n:Int):standsB s n=true↔(1<=(getG s n).st/\(getG s n).st<=5)/\cR s n=(if (getG s n).st=1 then 1 else 0)/\cM s true n=(if (getG s n).st=2 then 1 else 0)/\cW s n=(if (getG s n).st=3 then 1 else 0)/\cM s false n=(if (getG s n).st=4 then 1 else 0) /\
  (if (getG s n).st≠2/\(getG s n).st≠4 then (getG s n).m=0 else 1<=(getG s n).m/\(getG s n).m<=s.ms.length/\(getM s (getG s n).m).g=n):=by
 have q:∀ (a b c:Nat) (P:Prop) [Decidable P],((a:Int)=if P then 1 else 0)↔a=if P then 1 else 0:=fun a _ _ P _=>by split <;> omega
 unfold standsB timesL
 simp only [Bool.and_eq_true,decide_eq_true_eq]
 have e:s.gs.getD (n.toNat - 1) default=getG s n:=rfl
 rw [e]
 unfold cR cM cW
 rw [q _ 0 0,q _ 0 0,q _ 0 0,q _ 0 0]
 by_cases h:(getG s n).st≠2/\(getG s n).st≠4
 ·rw [if_pos h,if_pos h]
  simp only [decide_eq_true_eq,and_assoc]
 ·rw [if_neg h,if_neg h]
  simp only [decide_eq_true_eq,and_assoc]
  rfl
theorem cnt_mem {l:List Int} {n:Int}:n∈l↔0 < l.count n:=List.count_pos_iff.symm
theorem getG_set {s:SD} {g:Int} {x:GD} {n:Int} (h1:1<=g) (h2:g.toNat<=s.gs.length) (hn:1<=n):getG (setG s g x) n=if n=g then x else getG s n:=by
 unfold getG setG
 dsimp only
 by_cases e:n=g
 ·subst e
  rw [if_pos rfl,List.getD_eq_getElem?_getD,List.getElem?_set_self (by omega)]; rfl
 ·rw [if_neg e,List.getD_eq_getElem?_getD,List.getElem?_set_ne (by omega),<- List.getD_eq_getElem?_getD]
theorem getM_set {s:SD} {g:Int} {x:MD} {n:Int} (h1:1<=g) (h2:g.toNat<=s.ms.length) (hn:1<=n):getM (setM s g x) n=if n=g then x else getM s n:=by
 unfold getM setM
 dsimp only
 by_cases e:n=g
 ·subst e
  rw [if_pos rfl,List.getD_eq_getElem?_getD,List.getElem?_set_self (by omega)]; rfl
 ·rw [if_neg e,List.getD_eq_getElem?_getD,List.getElem?_set_ne (by omega),<- List.getD_eq_getElem?_getD]
theorem getP_set {s:SD} {g:Int} {x:PD} {n:Int} (h1:1<=g) (h2:g.toNat<=s.ps.length) (hn:1<=n):getP (setP s g x) n=if n=g then x else getP s n:=by
 unfold getP setP
 dsimp only
 by_cases e:n=g
 ·subst e
  rw [if_pos rfl,List.getD_eq_getElem?_getD,List.getElem?_set_self (by omega)]; rfl
 ·rw [if_neg e,List.getD_eq_getElem?_getD,List.getElem?_set_ne (by omega),<- List.getD_eq_getElem?_getD]
theorem place_of {s:SD} (hm:mayS s=true) {g:Int} (h1:1<=g) (h2:g<=s.gs.length) {k n:Int}:placeS s g=(k,n)↔(g,k,n)∈puts s:=by
 have:=place_prog s g h1 h2 hm
 rw [<- mem_atL,this]
 simp [eq_comm]
theorem puts_P {l:List PD} {i:Int} {g k n:Int}:(g,k,n)∈putsPs i l↔∃ (j:Nat) (p:PD),l[j]?=some p/\n=i+j+1/\((k=1/\p.nx=g/\g≠0)\/(k=2/\g∈listR p.r)):=by
 induction l generalizing i with
 |nil=>simp [putsPs]
 |cons p l ih =>
  simp only [putsPs,List.mem_append,ih]
  have h0 : (g,k,n)∈putsP i p↔n=i+1/\((k=1/\p.nx=g/\g≠0)\/(k=2/\g∈listR p.r)):=by
   unfold putsP
   simp only [List.mem_append,List.mem_map,Prod.mk.injEq]
   constructor
   ·rintro (h|⟨x,hx,rfl,rfl,rfl⟩)
    ·split at h
     ·simp at h
     ·rename_i hne
      simp only [List.mem_singleton,Prod.mk.injEq] at h
      obtain ⟨rfl,rfl,rfl⟩:=h
      exact ⟨rfl,.inl ⟨rfl,rfl,hne⟩⟩
    ·exact ⟨rfl,.inr ⟨rfl,hx⟩⟩
   ·rintro ⟨rfl,⟨rfl,rfl,h⟩|⟨rfl,h⟩⟩
    ·rw [if_neg h]; simp
    ·exact .inr ⟨g,h,rfl,rfl,rfl⟩
  rw [h0]
  constructor
  ·rintro (⟨rfl,h⟩|⟨j,q,h1,h2,h3⟩)
   ·exact ⟨0,p,rfl,by simp,h⟩
   ·exact ⟨j+1,q,by simpa using h1,by omega,h3⟩
  ·rintro ⟨j,q,h1,h2,h3⟩
   cases j with
   |zero=>simp at h1; subst h1; exact .inl ⟨by omega,h3⟩
   |succ j=>exact .inr ⟨j,q,by simpa using h1,by omega,h3⟩
theorem puts_mem {s:SD} {g k n:Int}:(g,k,n)∈puts s↔(g,k,n)∈putsPs 0 s.ps\/(g∈s.gl/\k=3/\n=0)\/(g∈s.w0/\k=5/\n=0)\/(g∈s.w1/\k=5/\n=1)\/(g∈s.w2/\k=5/\n=2)\/(g∈s.w3/\k=5/\n=3) \/
  (g∈s.ts.map (·.g)/\k=6/\n=0)\/(g,k,n)∈putsMs 0 s.ms\/(g,k,n)∈putsGs 0 s.gs:=by
 have e:(g,k,n)∈puts s↔(k,n)∈atL (puts s) g:=mem_atL.symm
 have hr:∀ (l:List Int) (a b:Int),(k,n)∈List.replicate (l.count g) (a,b)↔g∈l/\k=a/\n=b:=fun l a b=>by
  rw [List.mem_replicate,Prod.mk.injEq]
  constructor
  ·rintro ⟨h,rfl,rfl⟩; exact ⟨cnt_mem.2 (by omega),rfl,rfl⟩
  ·rintro ⟨h,rfl,rfl⟩; exact ⟨by have:=cnt_mem.1 h; omega,rfl,rfl⟩
 rw [e,places_split]
 simp only [List.mem_append,hr,mem_atL]
end Go.Ab
