/-
  A state that may be stays so when one is woken, yields, or a queue is drained; where all others are.
  find: what is picked, plainly.
  ring: a ring has a list; what is pushed, what is popped.
  ring: half of a ring; a ring of a list.
-/
import Derived.Test.YtkanpbjjabdalaaK11
import Derived.Test.YtkanpbjjabdalaaK22
set_option linter.all false
namespace Go.Ab
open Go
theorem ok_mk {s t:SD} (hs:OkS s) (e1:t.prog=s.prog) (e2:t.gs.length=s.gs.length) (e3:t.ps.length=s.ps.length) (e4:t.ms.length=s.ms.length) (e5:t.pr=s.pr) (e6:t.ck=s.ck) (hts:mayT [] t.ts=true)
    (hc:okCt t.c0 t.w0=true∧okCt t.c1 t.w1=true∧okCt t.c2 t.w2=true∧okCt t.c3 t.w3=true) (hgs:∀ x∈t.gs,okG s.prog x=true)
    (hP:∀ (j:Nat) x,t.ps[j]?=some x→∃ y,s.ps[j]?=some y∧x.m=y.m∧x.sq=y.sq∧mayR x.r=true∧((j:Int) < s.pr∨(x.nx=0∧x.r.n≤0)))
    (hM:∀ (j:Nat) x,t.ms[j]?=some x→∃ y,s.ms[j]?=some y∧x.p=y.p)
    (hin:∀ n,0 < cR t n+cW t n+cM t true n+cM t false n→1≤n∧n≤s.gs.length) (hst:∀ n:Int,1≤n→n≤s.gs.length→standsB t n=true):OkS t:=by
  obtain ⟨a1,a2⟩:=holds_keep hs e3 e4 e5 hP hM
  exact { prog:=e1 ▸ hs.prog,g1:=e2 ▸ hs.g1,g2:=e2 ▸ hs.g2,p8:=e3 ▸ hs.p8,pr1:=e5 ▸ hs.pr1,pr8:=e5 ▸ hs.pr8,ms:=e4 ▸ hs.ms,ck:=e6 ▸ hs.ck,ts:=hts,
          gs:=fun x hx=>e1 ▸ hgs x hx,hp:=a1,hm:=a2,c0:=hc.1,c1:=hc.2.1,c2:=hc.2.2.1,c3:=hc.2.2.2,
          inR:=fun x hx=>by rw [e2]; exact hin x (by have:=cnt_mem.1 hx; unfold cR; omega)
          inW:=fun x hx=>by rw [e2]; exact hin x (by have:=cnt_mem.1 hx; unfold cW; omega)
          inT:=fun x hx=>by rw [e2]; exact hin x (by have:=cnt_mem.1 hx; unfold cM; omega)
          inF:=fun x hx=>by rw [e2]; exact hin x (by have:=cnt_mem.1 hx; unfold cM; omega)
          st:=fun n h1 h2=>hst n h1 (by rw [← e2]; exact h2) }
theorem in_s {s:SD} (hs:OkS s) (n:Int) (h:0 < cR s n+cW s n+cM s true n+cM s false n):1≤n∧n≤s.gs.length:=by
  rcases Nat.eq_zero_or_pos (cR s n) with h1|h1
  · rcases Nat.eq_zero_or_pos (cW s n) with h2|h2
    · rcases Nat.eq_zero_or_pos (cM s true n) with h3|h3
      · exact hs.inF n (cnt_mem.2 (show 0 < cM s false n by omega))
      · exact hs.inT n (cnt_mem.2 h3)
    · exact hs.inW n (cnt_mem.2 h2)
  · exact hs.inR n (cnt_mem.2 h1)
theorem P_of {s:SD} (hs:OkS s) {p:Int} (p1:1≤p) (p2:p≤s.pr):p.toNat - 1 < s.ps.length∧s.ps[p.toNat - 1]?=some (getP s p)∧mayR (getP s p).r=true:=by
  have h8:=hs.p8
  have hpr:=hs.pr8
  have hlt:p.toNat - 1 < s.ps.length:=by omega
  have h:=getP_of hlt
  have:=hs.hp _ _ h
  unfold okP at this
  simp only [Bool.and_eq_true] at this
  exact ⟨hlt,h,this.1⟩
theorem ring_ok {s:SD} (hs:OkS s) {j:Nat} {x:PD} (h:s.ps[j]?=some x):mayR x.r=true∧((j:Int) < s.pr∨(x.nx=0∧x.r.n≤0)):=by
  have:=hs.hp j x h
  unfold okP at this
  simp only [Bool.and_eq_true,decide_eq_true_eq] at this
  obtain ⟨hr,hpp⟩:=this
  unfold okPp at hpp
  refine ⟨hr,?_⟩
  rcases hpp.2.2.2.2.2 with h|h
  · exact .inl h
  · exact .inr ⟨h.2.1,h.2.2⟩
theorem set_get {α:Type} {l:List α} {i j:Nat} {x y:α} (h:(l.set i x)[j]?=some y):(j=i∧i < l.length∧y=x)∨(j≠i∧l[j]?=some y):=by
  rw [List.getElem?_set] at h
  by_cases e:i=j
  · subst e
    rw [if_pos rfl] at h
    split at h
    · rename_i hlt; cases h; exact .inl ⟨rfl,hlt,rfl⟩
    · cases h
  · rw [if_neg e] at h; exact .inr ⟨fun q=>e q.symm,h⟩
structure NextOk (s t:SD) (p g:Int) (r:RD) (gl:List Int):Prop where
  eq:t={ setP s p { getP s p with nx:=g,r:=r } with gl:=gl }
  may:mayR r=true
  ring:∀ y∈listR (getP s p).r,y∈listR r∨y∈gl
  old:(getP s p).nx≠0→(getP s p).nx∈listR r∨(getP s p).nx∈gl
  glob:∀ y∈s.gl,y∈gl
  cnt:∀ n,cR t n=cR s n+if n=g then 1 else 0
theorem okG_turn {prog:List (List ID)} {x:GD} (h:okG prog x=true) (hsq:x.sq≤1000000) (st m:Int):okG prog { x with st:=st,m:=m,sq:=x.sq+1 }=true:=by
  unfold okG at *
  simp only [Bool.and_eq_true,decide_eq_true_eq] at *
  refine ⟨?_,h.2⟩
  omega
theorem turn_gs {s:SD} {g st m:Int} (hg:∀ x∈s.gs,okG s.prog x=true) (g1:1≤g) (g2:g.toNat≤s.gs.length) (hsq:(getG s g).sq≤1000000):∀ x∈(turnS s g st m).gs,okG s.prog x=true:=by
  intro x hx
  unfold turnS setG at hx
  rcases List.mem_or_eq_of_mem_set hx with h|h
  · exact hg x h
  · rw [h]
    exact okG_turn (hg _ (List.mem_of_getElem? (getG_of (s:=s) (p:=g) (by omega)))) hsq st m
end Go.Ab

namespace Go.Ab
open Go
def zeroR:RD:=⟨0,0,0,0,0,0,0,0,0,0⟩
def runS (s:SD) (p g:Int):SD:=let m:=(getP s p).m; setM (turnS s g 2 m) m ⟨(getM s m).p,g⟩
def looksB (s:SD) (p:Int):Bool:=mayS s&&decide (1≤p∧p≤s.pr∧(getP s p).m≠0∧(getM s (getP s p).m).g=0)
def nextF (s:SD) (p:Int):SD×Int:=(setP s p { getP s p with nx:=0 },(getP s p).nx)
def localF (s:SD) (p:Int):SD×Int :=
  match listR (getP s p).r with
  | []=>(s,0)
  | g::l=>(setP s p { getP s p with r:=atR (((getP s p).r.h+1) % 8) l },g)
def globalF (s:SD):SD×Int :=
  match s.gl with
  | []=>(s,0)
  | g::l=>({ s with gl:=l },g)
def halfN (l:List Int):Nat:=l.length - l.length / 2
def stealF (s:SD) (p v:Int):SD×Int :=
  if v < 1∨s.pr < v∨v=p then (s,0)
  else match listR (getP s v).r with
    | []=>nextF s v
    | g::l=>(setP (setP s v { getP s v with r:=atR (((getP s v).r.h+halfN (g::l)) % 8) ((g::l).drop (halfN (g::l))) }) p { getP s p with r:=atR (getP s p).r.h (listR (getP s p).r ++ ((g::l).take (halfN (g::l))).tail) },g)
def pickS (s:SD) (p v:Int):SD×Int :=
  if (getP s p).nx≠0 then (runS (nextF s p).1 p (nextF s p).2,(nextF s p).2)
  else if listR (getP s p).r≠[] then (runS (localF s p).1 p (localF s p).2,(localF s p).2)
  else if s.gl≠[] then (runS (globalF s).1 p (globalF s).2,(globalF s).2)
  else if (stealF s p v).2≠0 then (runS (stealF s p v).1 p (stealF s p v).2,(stealF s p v).2)
  else ((stealF s p v).1,0)
def dropP (g:Int) (x:PD):PD :=
  let y:=if x.nx=g then { x with nx:=0 } else x
  if g∈listR x.r then { y with r:=atR x.r.h ((listR x.r).filter fun z=>decide (z≠g)) } else y
def dropS (s:SD) (g:Int):SD:={ s with gl:=s.gl.filter fun x=>decide (x≠g),ps:=s.ps.map (dropP g) }
def startS (s:SD) (p g:Int):SD:=runS (dropS s g) p g
def startOk (s:SD) (p g:Int):Bool:=looksB s p&&decide (1≤g∧g.toNat≤s.gs.length∧(getG s g).st=1)
end Go.Ab

namespace Go.Ab
open Go Go.Proofs
set_option maxRecDepth 100000
set_option maxHeartbeats 4000000 in
theorem c97_ok (s s':Nat→Int) (h m m' v:Int) (hm:May s h m) (m8:m < 8) (v1:1≤v) (hs:∀ j,j < 8→s' j=if j=idx h m then v else s j) (em:m'=m+1) :
    CallsV Try.prog 97 [.agg (ringC s h m),.int .i64 v] (.tup [.agg (ringC s' h m'),.bool true]) [.undef,.undef] true:=by
  refine callsV_q hD Try.func97 ok97 rfl rfl rfl fun P Q hP hQ=>?_
  have h0:=hm.1
  have h1:=hm.2.1
  have m0:=hm.2.2.1
  have hmay:=c54 s h m true (by simp [hm])
  try rw [← hP] at hmay
  repeat' (cbv; first|refine .y ?_|refine .n ?_|refine .s (fun hc=>?_) fun hc=>?_|refine .gq hmay ?_|refine .a fun v hv=>?_|refine .d ?_|refine .u fun vr vn hvr hvn hvl=>?_|fail)
  all_goals (try cbv)
  obtain ⟨j,hj⟩ : ∃ j,j=(h+m) % 8:=⟨_,rfl⟩
  have hidx:idx h m=j.toNat:=by rw [idx,hj]
  have hcc:=c96 s h m m (by omega) (by omega) (by omega) (by omega) j hj
  rw [hidx] at hs
  have e0:=hs 0 (by omega)
  have e1:=hs 1 (by omega)
  have e2:=hs 2 (by omega)
  have e3:=hs 3 (by omega)
  have e4:=hs 4 (by omega)
  have e5:=hs 5 (by omega)
  have e6:=hs 6 (by omega)
  have e7:=hs 7 (by omega)
  clear hs
  rcases eight (j:=j) (by omega) (by omega) with e|e|e|e|e|e|e|e <;> subst e <;> refine CallQ.to (hP ▸ hcc) rfl (.inl rfl) ?_
  all_goals
    simp at e0 e1 e2 e3 e4 e5 e6 e7
    repeat' (cbv; first|refine .y ?_|refine .n ?_|refine .s (fun hc=>?_) fun hc=>?_|refine .a fun v hv=>?_|refine .d ?_|refine .u fun vr vn hvr hvn hvl=>?_|fail)
    all_goals (try cbv)
    have:m'=v:=by omega
    subst this
    exact hQ _ ⟨by simp only [ringC,e0,e1,e2,e3,e4,e5,e6,e7]; rfl,rfl,rfl,rfl,rfl⟩
theorem push_ok {s:Nat→Int} {h m v:Int} {l:List Int} (r:RingIs s h m l) (hl:l.length < 8) (hv:1≤v) :
    ∃ s' m',RingIs s' h m' (l ++ [v])∧CallsV Try.prog 97 [.agg (ringC s h m),.int .i64 v] (.tup [.agg (ringC s' h m'),.bool true]) [.undef,.undef] true :=
  ⟨_,_,r.push hl hv,c97_ok s _ h m _ v r.may (by have:=r.me; omega) hv (fun _ _=>rfl) rfl⟩
set_option maxHeartbeats 4000000 in
theorem c102_ok (s s':Nat→Int) (h m h' m' x:Int) (hm:May s h m) (m8:0 < m) (hs:∀ j,j < 8→s' j=if j=h.toNat then 0 else s j) (em:m'=m - 1) (eh:h'=(h+1) % 8) (ex:x=s h.toNat) :
    CallsV Try.prog 102 [.agg (ringC s h m)] (.tup [.agg (ringC s' h' m'),.int .i64 x,.bool true]) [.undef] true:=by
  refine callsV_q hD Try.func102 ok102 rfl rfl rfl fun P Q hP hQ=>?_
  have h0:=hm.1
  have h1:=hm.2.1
  have m0:=hm.2.2.2.1
  have hmay:=c54 s h m true (by simp [hm])
  have e0:=hs 0 (by omega)
  have e1:=hs 1 (by omega)
  have e2:=hs 2 (by omega)
  have e3:=hs 3 (by omega)
  have e4:=hs 4 (by omega)
  have e5:=hs 5 (by omega)
  have e6:=hs 6 (by omega)
  have e7:=hs 7 (by omega)
  clear hs
  rcases eight (j:=h) (by omega) (by omega) with e|e|e|e|e|e|e|e <;> subst e
  all_goals
    simp at e0 e1 e2 e3 e4 e5 e6 e7 ex
    try rw [← hP] at hmay
    repeat' (cbv; first|refine .y ?_|refine .n ?_|refine .s (fun hc=>?_) fun hc=>?_|refine .gq hmay ?_|refine .a fun v hv=>?_|refine .d ?_|refine .u fun vr vn hvr hvn hvl=>?_|fail)
    all_goals (try cbv)
    have hcc:=c96 s' _ m 1 h0 h1 (by omega) (by omega) _ eh
    refine CallQ.to (hP ▸ hcc) (by simp only [ringC,e0,e1,e2,e3,e4,e5,e6,e7]) (.inl rfl) ?_
    repeat' (cbv; first|refine .y ?_|refine .n ?_|refine .s (fun hc=>?_) fun hc=>?_|refine .a fun v hv=>?_|refine .d ?_|refine .u fun vr vn hvr hvn hvl=>?_|fail)
    all_goals (try cbv)
    have:m'=v:=by omega
    subst this
    exact hQ _ ⟨by simp only [ringC,ex,e0,e1,e2,e3,e4,e5,e6,e7]; rfl,rfl,rfl,rfl,rfl⟩
theorem c102_no (s:Nat→Int) (h m:Int) (b:Bool) (hb:b=true↔May s h m) (s':Nat→Int) (h' m':Int) (hn:(b=false∧s'=(fun _=>0)∧h'=0∧m'=0)∨(b=true∧m=0∧s'=s∧h'=h∧m'=m)) :
    CallsV Try.prog 102 [.agg (ringC s h m)] (.tup [.agg (ringC s' h' m'),.int .i64 0,.bool false]) [.undef] true:=by
  refine callsV_q hD Try.func102 ok102 rfl rfl rfl fun P Q hP hQ=>?_
  have hmay:=c54 s h m b hb
  rcases hn with ⟨rfl,rfl,rfl,rfl⟩|⟨rfl,m0,rfl,rfl,rfl⟩
  · try rw [← hP] at hmay
    repeat' (cbv; first|refine .y ?_|refine .n ?_|refine .s (fun hc=>?_) fun hc=>?_|refine .gq hmay ?_|refine .a fun v hv=>?_|refine .d ?_|refine .u fun vr vn hvr hvn hvl=>?_|fail)
    all_goals (try cbv)
    exact hQ _ ⟨rfl,rfl,rfl,rfl,rfl⟩
  · try rw [← hP] at hmay
    repeat' (cbv; first|refine .y ?_|refine .n ?_|refine .s (fun hc=>?_) fun hc=>?_|refine .gq hmay ?_|refine .a fun v hv=>?_|refine .d ?_|refine .u fun vr vn hvr hvn hvl=>?_|fail)
    all_goals (try cbv)
    exact hQ _ ⟨rfl,rfl,rfl,rfl,rfl⟩
theorem pop_ok {s:Nat→Int} {h m x:Int} {l:List Int} (r:RingIs s h m (x::l)) :
    ∃ s' h' m',h'=(h+1) % 8∧RingIs s' h' m' l∧CallsV Try.prog 102 [.agg (ringC s h m)] (.tup [.agg (ringC s' h' m'),.int .i64 x,.bool true]) [.undef] true :=
  ⟨_,_,_,rfl,r.pop.1,c102_ok s _ h m _ _ x r.may (by have:=r.me; simp at this; omega) (fun _ _=>rfl) rfl rfl r.pop.2⟩
theorem pop_no {s:Nat→Int} {h m:Int} (r:RingIs s h m []) :
    CallsV Try.prog 102 [.agg (ringC s h m)] (.tup [.agg (ringC s h m),.int .i64 0,.bool false]) [.undef] true :=
  c102_no s h m true (by simp [r.may]) s h m (.inr ⟨rfl,by have:=r.me; simpa using this,rfl,rfl,rfl⟩)
end Go.Ab

namespace Go.Ab
open Go Go.Proofs
set_option maxRecDepth 100000
theorem RingIs.same {s s':Nat→Int} {h m m':Int} {l:List Int} (r:RingIs s h m l) (r':RingIs s' h m' l):ringC s h m=ringC s' h m':=by
  have e:m=m':=by rw [r.me,r'.me]
  subst e
  exact ringC_congr fun j hj=>by rw [r.at' j hj,r'.at' j hj]
structure HalfI where
  i:Int
  s:Nat→Int
  h:Int
  m:Int
  rs:List (List V)
  n:Nat
set_option maxHeartbeats 4000000 in
theorem half_ok {s:Nat→Int} {h m:Int} {l:List Int} (r:RingIs s h m l) :
    ∃ s' h' m',h'=(h+(m - m / 2)) % 8∧RingIs s' h' m' (l.drop (l.length - l.length / 2)) ∧
      CallsV Try.prog 98 [.agg (ringC s h m)] (.tup [.agg (ringC s' h' m'),.own 1 ((l.take (l.length - l.length / 2)).map iC)]) [.undef] true:=by
  -- the rings on the way
  have way:∀ i,i≤l.length→∃ s' h' m',h'=(h+(i:Nat)) % 8∧RingIs s' h' m' (l.drop i):=by
    intro i
    induction i with
    | zero=>intro _; exact ⟨s,h,m,by have:=r.h0; have:=r.h1; omega,r⟩
    | succ i ih =>
      intro hi
      obtain ⟨s',h',m',e,r'⟩:=ih (by omega)
      rw [List.drop_eq_getElem_cons (by omega)] at r'
      exact ⟨_,_,_,by omega,r'.pop.1⟩
  obtain ⟨k,hk⟩ : ∃ k,k=l.length - l.length / 2:=⟨_,rfl⟩
  rw [← hk]
  obtain ⟨s',h',m',e,r'⟩:=way k (by omega)
  replace e:h'=(h+(m - m / 2)) % 8:=by have:=r.me; omega
  refine ⟨s',h',m',e,r',?_⟩
  clear way
  refine callsV_q hD Try.func98 ok98 rfl rfl rfl fun P Q hP hQ=>?_
  have hmay:=c54 s h m true (by simp [r.may])
  have m0:0≤m:=by have:=r.me; omega
  have me:m.toNat=l.length:=by have:=r.me; omega
  have m1:=r.m1
  try rw [← hP] at hmay
  repeat' (cbv; first|refine .y ?_|refine .n ?_|refine .s (fun hc=>?_) fun hc=>?_|refine .gq hmay ?_|refine .a fun v hv=>?_|refine .d ?_|refine .u fun vr vn hvr hvn hvl=>?_|fail)
  all_goals (try cbv)
  rename_i v0 hv0
  have hvk:v=k:=by omega
  refine LoopQ.to (ι:=HalfI) (fun p=>⟨tab .undef [(1,.ptr 100 0),(2,.ptr 101 0),(4,.sref 102 0 p.n),(17,.int .i64 v),(18,.int .i64 p.i)],tab .dead [(100,.box (ringC p.s p.h p.m)),(101,.box (ringC (fun _=>0) 0 0)),(102,.rows 1 p.rs)]⟩)
    (fun p=>0≤p.i∧p.i≤v∧RingIs p.s p.h p.m (l.drop p.i.toNat)∧p.h=(h+p.i) % 8∧p.rs=(l.take p.i.toNat).map iC∧p.n=p.rs.length) (fun p=>(v - p.i).toNat) ⟨0,s,h,m,[],0⟩
    ⟨by show (0:Int)≤0; omega,by show (0:Int)≤v; omega,r,by show h=(h+0) % 8; have:=r.h0; have:=r.h1; omega,rfl,rfl⟩ rfl fun p hp A hA=>?_
  obtain ⟨i,s1,h1,m1',rs,n⟩:=p
  obtain ⟨i0,i1,hr1,hh1,hrs,hn⟩:=hp
  dsimp only at i0 i1 hr1 hh1 hrs hn
  have hn':n=i.toNat:=by rw [hn,hrs]; simp; omega
  rcases (show i < v∨i=v by omega) with hi|hi
  · rw [List.drop_eq_getElem_cons (by omega)] at hr1
    obtain ⟨s2,h2,m2,e2,hr2,hpop⟩:=pop_ok hr1
    obtain ⟨x,hx⟩ : ∃ x,x=l[i.toNat]'(by omega):=⟨_,rfl⟩
    rw [← hx] at hpop
    try rw [← hP] at hpop
    repeat' (cbv; first|refine .y ?_|refine .n ?_|refine .s (fun hc=>?_) fun hc=>?_|refine Lt.all (by refine ⟨hn,?_⟩; show (n+1) * 8≤_; omega) fun v hv=>?_|refine .gq hpop ?_|refine .a fun v hv=>?_|refine .d ?_|refine .u fun vr vn hvr hvn hvl=>?_|fail)
    all_goals (try cbv)
    refine hA ⟨v,s2,h2,m2,vr,vn⟩ _ ⟨by show 0≤v; omega,by show v≤_; omega,?_,by show h2=(h+v) % 8; omega,?_,?_⟩ (by show (_ - v).toNat < (_ - i).toNat; omega) rfl
    · show RingIs s2 h2 m2 (l.drop v.toNat)
      rw [hv,show (i+1).toNat=i.toNat+1 by omega]; exact hr2
    · show vr=(l.take v.toNat).map iC
      rw [hvr,hrs,hv,show (i+1).toNat=i.toNat+1 by omega,List.take_succ_eq_append_getElem (by omega),← hx]
      simp [iC]
    · exact hvn
  · subst hi
    have hi:i.toNat=k:=by omega
    rw [hi] at hr1 hrs
    have he:h1=h':=by omega
    subst he
    have hc:=hr1.same r'
    repeat' (cbv; first|refine .y ?_|refine .n ?_|refine .s (fun hc=>?_) fun hc=>?_|refine .a fun v hv=>?_|refine .d ?_|refine .u fun vr vn hvr hvn hvl=>?_|fail)
    all_goals (try cbv)
    subst hn hrs
    exact hQ _ ⟨by rw [← hc]; simp [t98,pack,RV.ev,resG,giveC,tab,pickc,ringC],rfl,by simp [t98,RV.ev,giveC,tab,V.notTup,V.cells,okGood,pickc,V.closed,V.fresh]; exact fresh_take,rfl,rfl⟩
end Go.Ab
