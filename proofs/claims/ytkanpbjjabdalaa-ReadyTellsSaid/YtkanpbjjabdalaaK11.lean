/-
  ring: a ring's places; may a ring be?
  ring: a ring has a list; what is pushed, what is popped (in plain Lean).
  ring: what the document's own answers are; two lists, are they the same?
  The scheduler's states: data, and as abstract values.
-/
import Derived.Test.YtkanpbjjabdalaaK7
import Derived.Test.YtkanpbjjabdalaaK9
set_option linter.all false
namespace Go.Ab
open Go Go.Proofs
set_option maxRecDepth 100000
def ringC (s:Nat->Int) (h m:Int):List V:=[.int .i64 (s 0),.int .i64 (s 1),.int .i64 (s 2),.int .i64 (s 3),.int .i64 (s 4),.int .i64 (s 5),.int .i64 (s 6),.int .i64 (s 7),.int .i64 h,.int .i64 m]
def idx (h i:Int):Nat:=((h+i) % 8).toNat
def May (s:Nat->Int) (h m:Int):Prop :=
 0<=h/\h < 8/\0<=m/\m<=8/\∀ i:Int,0<=i->i < 8->(i < m->1<=s (idx h i))/\(m<=i->s (idx h i)=0)
theorem c96 (s:Nat->Int) (h m k:Int) (h0:0<=h) (h1:h < 8) (k0:0<=k) (k1:k<=8) (j:Int) (hj:j=(h+k) % 8):CallsV Try.prog 96 [.agg (ringC s h m),.int .i64 k] (.int .i64 j) [.undef,.undef] true:=by
 refine callsV_q hD Try.func96 ok96 rfl rfl rfl fun P Q hP hQ=>?_
 repeat' (cbv; first|refine .y ?_|refine .n ?_|refine .s (fun hc=>?_) fun hc=>?_|refine .a fun v hv=>?_|refine .d ?_|refine .u fun vr vn hvr hvn hvl=>?_|fail)
 all_goals (try cbv)
 have:v=j:=by omega
 subst this
 exact hQ _ ⟨rfl,rfl,rfl,rfl,rfl⟩
theorem eight {j:Int} (h:0<=j) (h':j < 8):j=0\/j=1\/j=2\/j=3\/j=4\/j=5\/j=6\/j=7:=by omega
set_option maxHeartbeats 4000000 in
theorem c54 (s:Nat->Int) (h m:Int) (b:Bool) (hb:b=true↔May s h m):CallsV Try.prog 54 [.agg (ringC s h m)] (.bool b) [.undef] true:=by
 refine callsV_q hD Try.func54 ok54 rfl rfl rfl fun P Q hP hQ=>?_
 repeat' (cbv; first|refine .y ?_|refine .n ?_|refine .s (fun hc=>?_) fun hc=>?_|refine .a fun v hv=>?_|refine .d ?_|refine .u fun vr vn hvr hvn hvl=>?_|fail)
 all_goals (try cbv)
 ·have:b=false:=by cases b <;> simp_all [May]; omega
  subst this; exact hQ _ ⟨rfl,rfl,rfl,rfl,rfl⟩
 ·have:b=false:=by cases b <;> simp_all [May]; omega
  subst this; exact hQ _ ⟨rfl,rfl,rfl,rfl,rfl⟩
 ·have:b=false:=by cases b <;> simp_all [May]; omega
  subst this; exact hQ _ ⟨rfl,rfl,rfl,rfl,rfl⟩
 ·have:b=false:=by cases b <;> simp_all [May]; omega
  subst this; exact hQ _ ⟨rfl,rfl,rfl,rfl,rfl⟩
 ·refine LoopQ.to (ι:=Int) (fun i=>⟨tab .undef [(1,.ptr 100 0),(23,.int .i64 i)],tab .dead [(100,.box (ringC s h m))]⟩)
   (fun i=>0<=i/\i<=8/\∀ j:Int,0<=j->j < i->(j < m->1<=s (idx h j))/\(m<=j->s (idx h j)=0)) (fun i=>(8 - i).toNat) 0 ⟨by omega,by omega,fun j h h'=>by omega⟩ rfl fun i ⟨i0,i1,hall⟩ A hA=>?_
  repeat' (cbv; first|refine .y ?_|refine .n ?_|refine .s (fun hc=>?_) fun hc=>?_|refine .a fun v hv=>?_|refine .d ?_|refine .u fun vr vn hvr hvn hvl=>?_|fail)
  all_goals (try cbv)
  ·have next:(i < m->1<=s (idx h i))->(m<=i->s (idx h i)=0)->∀ j:Int,0<=j->j < i+1->(j < m->1<=s (idx h j))/\(m<=j->s (idx h j)=0):=fun a b j j0 j1=>by
    by_cases e:j=i
    ·subst e; exact ⟨a,b⟩
    ·exact hall j j0 (by omega)
   have no:¬ ((i < m->1<=s (idx h i))/\(m<=i->s (idx h i)=0))->b=false:=fun hn=>by
    cases b with
    |false=>rfl
    |true=>exact (hn ((hb.1 rfl).2.2.2.2 i i0 (by omega))).elim
   obtain ⟨j,hj⟩ : ∃ j,j=(h+i) % 8:=⟨_,rfl⟩
   have hidx:idx h i=j.toNat:=by rw [idx,hj]
   have hcc:=c96 s h m i (by omega) (by omega) (by omega) (by omega) j hj
   rw [hidx] at next no
   rcases eight (j:=j) (by omega) (by omega) with e|e|e|e|e|e|e|e <;> subst e <;> refine CallQ.to (hP ▸ hcc) rfl (.inl rfl) ?_
   all_goals
    simp only [Int.reduceToNat] at next no
    repeat' (cbv; first|refine .y ?_|refine .n ?_|refine .s (fun hc=>?_) fun hc=>?_|refine .a fun v hv=>?_|refine .d ?_|refine .u fun vr vn hvr hvn hvl=>?_|fail)
    all_goals (try cbv)
    all_goals first
     |exact hA _ _ ⟨by omega,by omega,by rw [hv]; exact next (by omega) (by omega)⟩ (by omega) rfl
     |(
       have:b=false:=no (by omega)
       subst this; exact hQ _ ⟨rfl,rfl,rfl,rfl,rfl⟩)
  ·have:b=true:=hb.2 ⟨by omega,by omega,by omega,by omega,fun j j0 j1=>hall j j0 (by omega)⟩
   subst this; exact hQ _ ⟨rfl,rfl,rfl,rfl,rfl⟩
end Go.Ab

namespace Go.Ab
open Go Go.Proofs
set_option maxRecDepth 100000
structure RingIs (s:Nat->Int) (h m:Int) (l:List Int):Prop where
 h0:0<=h
 h1:h < 8
 m1:l.length<=8
 me:m=l.length
 pos:∀ x∈l,1<=x
 at':∀ j:Nat,j < 8->s j=l.getD ((j - h+8) % 8).toNat 0
theorem getD_pos {l:List Int} (hp:∀ x∈l,1<=x) {k:Nat} (h:k < l.length):1<=l.getD k 0:=by
 rw [List.getD_eq_getElem?_getD,List.getElem?_eq_getElem h]
 exact hp _ (List.getElem_mem h)
theorem getD_zero {l:List Int} {k:Nat} (h:l.length<=k):l.getD k 0=0:=by
 rw [List.getD_eq_getElem?_getD,List.getElem?_eq_none h]; rfl
theorem RingIs.idx {s:Nat->Int} {h m:Int} {l:List Int} (r:RingIs s h m l) {i:Int} (i0:0<=i) (i1:i < 8):s (idx h i)=l.getD i.toNat 0:=by
 have h0:=r.h0
 have h1:=r.h1
 have hlt:Go.Ab.idx h i < 8:=by unfold Go.Ab.idx; omega
 rw [r.at' _ hlt]
 congr 1
 unfold Go.Ab.idx; omega
theorem RingIs.may {s:Nat->Int} {h m:Int} {l:List Int} (r:RingIs s h m l):May s h m:=by
 have h1:=r.m1
 have h2:=r.me
 refine ⟨r.h0,r.h1,by omega,by omega,fun i i0 i1=>?_⟩
 rw [r.idx i0 i1]
 exact ⟨fun e=>getD_pos r.pos (by omega),fun e=>getD_zero (by omega)⟩
theorem May.ring {s:Nat->Int} {h m:Int} (r:May s h m):∃ l,RingIs s h m l:=by
 obtain ⟨h0,h1,m0,m1,hall⟩:=r
 refine ⟨(List.range m.toNat).map fun i:Nat=>s (idx h (i:Int)),h0,h1,by simp; omega,by simp; omega,fun x hx=>?_,fun j hj=>?_⟩
 ·simp only [List.mem_map,List.mem_range] at hx
  obtain ⟨i,hi,rfl⟩:=hx
  exact (hall i (by omega) (by omega)).1 (by omega)
 ·have e:idx h ((j - h+8) % 8)=j:=by unfold idx; omega
  by_cases c:(j - h+8) % 8 < m
  ·rw [List.getD_eq_getElem?_getD,List.getElem?_map,List.getElem?_range (by omega)]
   simp only [Option.map_some,Option.getD_some]
   rw [show (((((j:Int) - h+8) % 8).toNat:Nat):Int)=(j - h+8) % 8 by omega,e]
  ·rw [getD_zero (by simp; omega),<- e]
   exact (hall ((j - h+8) % 8) (by omega) (by omega)).2 (by omega)
theorem RingIs.nil:RingIs (fun _=>0) 0 0 []:=⟨by omega,by omega,by simp,by simp,by simp,fun j hj=>by simp⟩
theorem ringC_congr {s s':Nat->Int} {h m:Int} (e:∀ j,j < 8->s j=s' j):ringC s h m=ringC s' h m:=by
 simp only [ringC,e 0 (by omega),e 1 (by omega),e 2 (by omega),e 3 (by omega),e 4 (by omega),e 5 (by omega),e 6 (by omega),e 7 (by omega)]
theorem RingIs.push {s:Nat->Int} {h m v:Int} {l:List Int} (r:RingIs s h m l) (hl:l.length < 8) (hv:1<=v) :
  RingIs (fun j=>if j=Go.Ab.idx h m then v else s j) h (m+1) (l ++ [v]):=by
 have h0:=r.h0
 have h1:=r.h1
 have me:=r.me
 refine ⟨r.h0,r.h1,by simp; omega,by simp; omega,fun x hx=>?_,fun j hj=>?_⟩
 ·rcases List.mem_append.1 hx with hx|hx
  ·exact r.pos x hx
  ·simp at hx; omega
 ·by_cases e:j=Go.Ab.idx h m
  ·rw [if_pos e]
   have:((j - h+8) % 8).toNat=l.length:=by rw [e]; unfold Go.Ab.idx; omega
   rw [this]; simp
  ·rw [if_neg e,r.at' j hj]
   have hne:((j - h+8) % 8).toNat≠l.length:=fun e'=>e (by unfold Go.Ab.idx; omega)
   by_cases c:((j - h+8) % 8).toNat < l.length
   ·rw [List.getD_eq_getElem?_getD,List.getD_eq_getElem?_getD,List.getElem?_append_left c]
   ·rw [getD_zero (by omega),getD_zero (by simp; omega)]
theorem RingIs.pop {s:Nat->Int} {h m x:Int} {l:List Int} (r:RingIs s h m (x::l)) :
  RingIs (fun j=>if j=h.toNat then 0 else s j) ((h+1) % 8) (m - 1) l/\x=s h.toNat:=by
 have h0:=r.h0
 have h1:=r.h1
 have me:=r.me
 have m1:=r.m1
 simp only [List.length_cons] at me m1
 refine ⟨⟨by omega,by omega,by omega,by omega,fun y hy=>r.pos y (by simp [hy]),fun j hj=>?_⟩,?_⟩
 ·by_cases e:j=h.toNat
  ·rw [if_pos e,getD_zero (by omega)]
  ·rw [if_neg e,r.at' j hj]
   have:((j - h+8) % 8).toNat=((j - (h+1) % 8+8) % 8).toNat+1:=by omega
   rw [this]; simp
 ·rw [r.at' _ (by omega),show (((h.toNat:Nat):Int) - h+8) % 8=0 by omega]; rfl
end Go.Ab

namespace Go.Ab
open Go Go.Proofs
set_option maxRecDepth 100000
theorem may_iff {s:Nat->Int} {h m:Int}:May s h m↔0<=h/\h < 8/\0<=m/\m<=8/\∀ j:Int,0<=j->j < 8->((j - h+8) % 8 < m->1<=s j.toNat)/\(m<=(j - h+8) % 8->s j.toNat=0):=by
 constructor
 ·rintro ⟨h0,h1,m0,m1,hall⟩
  refine ⟨h0,h1,m0,m1,fun j j0 j1=>?_⟩
  have:=hall ((j - h+8) % 8) (by omega) (by omega)
  rwa [show idx h ((j - h+8) % 8)=j.toNat by unfold idx; omega] at this
 ·rintro ⟨h0,h1,m0,m1,hall⟩
  refine ⟨h0,h1,m0,m1,fun i i0 i1=>?_⟩
  have:=hall (idx h i) (by omega) (by unfold idx; omega)
  rw [show ((idx h i:Int) - h+8) % 8=i by unfold idx; omega] at this
  simpa using this
set_option maxHeartbeats 4000000 in
theorem c56 (s:Nat->Int) (h m:Int) (b:Bool) (hb:b=true↔May s h m):CallsV Try.prog 56 [.agg (ringC s h m)] (.bool b) [.undef] true:=by
 rw [may_iff] at hb
 refine callsV_q hD Try.func56 ok56 rfl rfl rfl fun P Q hP hQ=>?_
 repeat' (cbv; first|refine .y ?_|refine .n ?_|refine .s (fun hc=>?_) fun hc=>?_|refine .a fun v hv=>?_|refine .d ?_|refine .u fun vr vn hvr hvn hvl=>?_|fail)
 all_goals (try cbv)
 ·have:b=false:=by cases b <;> simp_all; omega
  subst this; exact hQ _ ⟨rfl,rfl,rfl,rfl,rfl⟩
 ·have:b=false:=by cases b <;> simp_all; omega
  subst this; exact hQ _ ⟨rfl,rfl,rfl,rfl,rfl⟩
 ·have:b=false:=by cases b <;> simp_all; omega
  subst this; exact hQ _ ⟨rfl,rfl,rfl,rfl,rfl⟩
 ·have:b=false:=by cases b <;> simp_all; omega
  subst this; exact hQ _ ⟨rfl,rfl,rfl,rfl,rfl⟩
 ·refine LoopQ.to (ι:=Int) (fun i=>⟨tab .undef [(1,.ptr 100 0),(3,.int .i64 i)],tab .dead [(100,.box (ringC s h m))]⟩)
   (fun i=>0<=i/\i<=8/\∀ j:Int,0<=j->j < i->((j - h+8) % 8 < m->1<=s j.toNat)/\(m<=(j - h+8) % 8->s j.toNat=0)) (fun i=>(8 - i).toNat) 0 ⟨by omega,by omega,fun j h h'=>by omega⟩ rfl fun i ⟨i0,i1,hall⟩ A hA=>?_
  have next:((i - h+8) % 8 < m->1<=s i.toNat)->(m<=(i - h+8) % 8->s i.toNat=0)->∀ j:Int,0<=j->j < i+1->((j - h+8) % 8 < m->1<=s j.toNat)/\(m<=(j - h+8) % 8->s j.toNat=0):=fun a b j j0 j1=>by
    by_cases e:j=i
    ·subst e; exact ⟨a,b⟩
    ·exact hall j j0 (by omega)
  have no:i < 8->¬ (((i - h+8) % 8 < m->1<=s i.toNat)/\(m<=(i - h+8) % 8->s i.toNat=0))->b=false:=fun i8 hn=>by
    cases b with
    |false=>rfl
    |true=>exact (hn ((hb.1 rfl).2.2.2.2 i i0 i8)).elim
  rcases (show i=8\/i < 8 by omega) with e|i8
  ·subst e
   repeat' (cbv; first|refine .y ?_|refine .n ?_|refine .s (fun hc=>?_) fun hc=>?_|refine .a fun v hv=>?_|refine .d ?_|refine .u fun vr vn hvr hvn hvl=>?_|fail)
   all_goals (try cbv)
   have:b=true:=hb.2 ⟨by omega,by omega,by omega,by omega,fun j j0 j1=>hall j j0 (by omega)⟩
   subst this; exact hQ _ ⟨rfl,rfl,rfl,rfl,rfl⟩
  ·clear hall
   rcases eight (j:=i) (by omega) (by omega) with e|e|e|e|e|e|e|e <;> subst e
   all_goals
    simp only [Int.reduceToNat] at next no
    repeat' (cbv; first|refine .y ?_|refine .n ?_|refine .s (fun hc=>?_) fun hc=>?_|refine .a fun v hv=>?_|refine .d ?_|refine .u fun vr vn hvr hvn hvl=>?_|fail)
    all_goals (try cbv)
    all_goals first
     |exact hA _ _ ⟨by omega,by omega,by rw [hv]; exact next (by omega) (by omega)⟩ (by omega) rfl
     |(
       have:b=false:=no (by omega) (by omega)
       subst this; exact hQ _ ⟨rfl,rfl,rfl,rfl,rfl⟩)
def iC (x:Int):List V:=[.int .i64 x]
theorem getD_iC {l:List Int} {k:Nat} (h:k < l.length):(l.map iC).getD k []=[.int .i64 (l.getD k 0)]:=by
 simp [List.getD_eq_getElem?_getD,List.getElem?_eq_getElem h,iC]
theorem shR_iC (l:List Int):V.shR (l.map iC)=l.map iC:=by
 induction l with
 |nil=>rfl
 |cons x l ih=>simp only [List.map_cons,V.shR,ih]; rfl
set_option maxHeartbeats 4000000 in
theorem c26 (a b:List Int) (la:a.length < 9223372036854775808) (t:Bool) (ht:t=true↔a=b):CallsV Try.prog 26 [.sl false 1 (a.map iC),.sl false 1 (b.map iC)] (.bool t) [.undef,.undef] true:=by
 obtain ⟨ra,ha⟩ : ∃ r,r=a.map iC:=⟨_,rfl⟩
 obtain ⟨rb,hb⟩ : ∃ r,r=b.map iC:=⟨_,rfl⟩
 have sa:=shR_iC a
 have sb:=shR_iC b
 have la':ra.length=a.length:=by simp [ha]
 have lb':rb.length=b.length:=by simp [hb]
 rw [<- ha] at sa
 rw [<- hb] at sb
 rw [<- ha,<- hb]
 refine callsV_q hD Try.func26 ok26 rfl rfl (by simp only [List.map_cons,List.map_nil,V.sh,sa,sb]) fun P Q hP hQ=>?_
 repeat' (cbv; first|refine .y ?_|refine .n ?_|refine .s (fun hc=>?_) fun hc=>?_|refine .a fun v hv=>?_|refine .d ?_|refine .u fun vr vn hvr hvn hvl=>?_|fail)
 all_goals (try cbv)
 ·have hl:a.length=b.length:=by omega
  refine LoopQ.to (ι:=Int) (fun i=>⟨tab .undef [(0,.sl false 1 ra),(1,.sl false 1 rb),(5,.int .i64 i)],tab .dead []⟩)
   (fun i=>0<=i/\i.toNat<=a.length/\∀ j:Nat,j < i.toNat->a.getD j 0=b.getD j 0) (fun i=>a.length - i.toNat) 0 ⟨by omega,by omega,fun j h=>by omega⟩ rfl fun i ⟨i0,i1,hall⟩ A hA=>?_
  have ga:i.toNat < a.length->ra.getD i.toNat []=[.int .i64 (a.getD i.toNat 0)]:=fun h=>by rw [ha,getD_iC h]
  have gb:i.toNat < b.length->rb.getD i.toNat []=[.int .i64 (b.getD i.toNat 0)]:=fun h=>by rw [hb,getD_iC h]
  obtain ⟨xa,hxa⟩ : ∃ x,x=a.getD i.toNat 0:=⟨_,rfl⟩
  obtain ⟨xb,hxb⟩ : ∃ x,x=b.getD i.toNat 0:=⟨_,rfl⟩
  rw [<- hxa] at ga
  rw [<- hxb] at gb
  repeat' (cbv; first|refine .y ?_|refine .n ?_|refine .s (fun hc=>?_) fun hc=>?_|refine Lt.to (⟨rfl,by omega,by omega⟩ : 1=1/\0<=i/\i.toNat < ra.length) (ga (by omega)) ?_|refine Lt.to (⟨rfl,by omega,by omega⟩ : 1=1/\0<=i/\i.toNat < rb.length) (gb (by omega)) ?_|refine .a fun v hv=>?_|refine .d ?_|refine .u fun vr vn hvr hvn hvl=>?_|fail)
  all_goals (try cbv)
  ·exact hA _ _ ⟨by omega,by omega,fun j hj=>by
    by_cases e:j < i.toNat
    ·exact hall j e
    ·have:j=i.toNat:=by omega
     subst this; omega⟩ (by omega) rfl
  ·have:t=false:=by
    cases t with
    |false=>rfl
    |true=>have:=ht.1 rfl; subst this; omega
   subst this; exact hQ _ ⟨rfl,rfl,rfl,rfl,rfl⟩
  ·have:t=true:=ht.2 (List.ext_getElem hl fun j h1 h2=>by
    have:=hall j (by omega)
    rwa [List.getD_eq_getElem?_getD,List.getD_eq_getElem?_getD,List.getElem?_eq_getElem h1,List.getElem?_eq_getElem h2] at this)
   subst this; exact hQ _ ⟨rfl,rfl,rfl,rfl,rfl⟩
 ·have:t=false:=by
   cases t with
   |false=>rfl
   |true=>have:=ht.1 rfl; subst this; omega
  subst this; exact hQ _ ⟨rfl,rfl,rfl,rfl,rfl⟩
theorem fresh_iC {l:List Int}:∀ x,x∈l->∀ y,y∈iC x->y.fresh=true:=fun x _ y hy=>by
 simp only [iC,List.mem_singleton] at hy; subst hy; rfl
theorem fresh_take {k:Nat} {l:List Int}:∀ x,x∈List.take k (List.map iC l)->∀ y,y∈x->y.fresh=true:=fun x hx y hy=>by
 obtain ⟨z,_,rfl⟩:=List.mem_map.1 (List.mem_of_mem_take hx)
 simp only [iC,List.mem_singleton] at hy; subst hy; rfl
theorem take_next {l:List Int} {k:Nat} (h:k < l.length):l.take (k+1)=l.take k ++ [l.getD k 0]:=by
 rw [List.take_succ_eq_append_getElem h]; simp [List.getD_eq_getElem?_getD,List.getElem?_eq_getElem h]
set_option maxHeartbeats 4000000 in
theorem c27 (s:Nat->Int) (h m:Int) (l:List Int) (r:RingIs s h m l):CallsV Try.prog 27 [.agg (ringC s h m)] (.own 1 (l.map iC)) [.undef] true:=by
 refine callsV_q hD Try.func27 ok27 rfl rfl rfl fun P Q hP hQ=>?_
 have hmay:=c56 s h m true (by simp [r.may])
 have h0:=r.h0
 have h1:=r.h1
 have m0:0<=m:=by have:=r.me; omega
 have me:m.toNat=l.length:=by have:=r.me; omega
 have m1:=r.m1
 repeat' (cbv; first|refine .y ?_|refine .n ?_|refine .s (fun hc=>?_) fun hc=>?_|refine .a fun v hv=>?_|refine .d ?_|refine .u fun vr vn hvr hvn hvl=>?_|fail)
 all_goals (try cbv)
 refine LoopQ.to (ι:=Int×List (List V)×Nat) (fun p=>⟨tab .undef [(1,.ptr 100 0),(3,.sref 101 0 p.2.2),(4,.int .i64 p.1)],tab .dead [(100,.box (ringC s h m)),(101,.rows 1 p.2.1)]⟩)
  (fun p=>0<=p.1/\p.1<=m/\p.2.1=(l.take p.1.toNat).map iC/\p.2.2=p.2.1.length) (fun p=>(m - p.1).toNat) (0,[],0) ⟨by omega,by omega,by simp,rfl⟩ rfl fun ⟨i,rs,n⟩ ⟨i0,i1,hrs,hn⟩ A hA=>?_
 simp only at i0 i1 hrs hn
 have hn':n=i.toNat:=by rw [hn,hrs]; simp; omega
 try rw [<- hP] at hmay
 repeat' (cbv; first|refine .y ?_|refine .n ?_|refine .s (fun hc=>?_) fun hc=>?_|refine .gq hmay ?_|refine .a fun v hv=>?_|refine .d ?_|refine .u fun vr vn hvr hvn hvl=>?_|fail)
 all_goals (try cbv)
 ·have hrl:rs.length=i.toNat:=by omega
  obtain ⟨x,hx⟩ : ∃ x,x=l.getD i.toNat 0:=⟨_,rfl⟩
  have hsx:s v.toNat=x:=by rw [show v.toNat=idx h i by unfold idx; omega,r.idx (by omega) (by omega),hx]
  rcases eight (j:=v) (by omega) (by omega) with e|e|e|e|e|e|e|e <;> subst e
  all_goals
   simp only [Int.reduceToNat] at hsx
   repeat' (cbv; first|refine .y ?_|refine .n ?_|refine .s (fun hc=>?_) fun hc=>?_|refine .a fun v hv=>?_|refine .d ?_|refine .u fun vr vn hvr hvn hvl=>?_|fail)
   all_goals (try cbv)
   refine hA (v,vr,vn) _ ⟨by show 0<=v; omega,by show v<=m; omega,?_,?_⟩ (by show (m - v).toNat < (m - i).toNat; omega) rfl
   ·show vr=(l.take v.toNat).map iC
    rw [hvr,hsx,hrs,hx,hv,show (i+1).toNat=i.toNat+1 by omega,take_next (by omega)]
    simp [iC]
   ·exact hvn
 ·have hi:i.toNat=l.length:=by omega
  rw [hi,List.take_length] at hrs
  subst hn hrs
  exact hQ _ ⟨by simp [t27,pack,RV.ev,resG,giveC,tab],rfl,by simp [t27,RV.ev,giveC,tab,V.notTup,V.cells,okGood]; exact fresh_iC,rfl,rfl⟩
end Go.Ab

namespace Go.Ab
open Go Go.Proofs
set_option maxRecDepth 100000
structure ID where
 d:Int
 a:Int
 deriving DecidableEq,Inhabited
structure GD where
 fn:Int
 pc:Int
 st:Int
 m:Int
 sq:Int
 deriving DecidableEq,Inhabited
structure RD where
 b0:Int
 b1:Int
 b2:Int
 b3:Int
 b4:Int
 b5:Int
 b6:Int
 b7:Int
 h:Int
 n:Int
 deriving DecidableEq,Inhabited
structure PD where
 m:Int
 nx:Int
 r:RD
 sq:Int
 deriving DecidableEq,Inhabited
structure MD where
 p:Int
 g:Int
 deriving DecidableEq,Inhabited
structure TD where
 t:Int
 g:Int
 deriving DecidableEq,Inhabited
structure SD where
 prog:List (List ID)
 gs:List GD
 ps:List PD
 ms:List MD
 gl:List Int
 c0:Int
 c1:Int
 c2:Int
 c3:Int
 w0:List Int
 w1:List Int
 w2:List Int
 w3:List Int
 ts:List TD
 ck:Int
 pr:Int
 deriving DecidableEq,Inhabited
def jC (x:ID):List V:=[.int .i64 x.d,.int .i64 x.a]
def fC (f:List ID):List V:=[.sl false 2 (f.map jC)]
def gC (x:GD):List V:=[.int .i64 x.fn,.int .i64 x.pc,.int .i64 x.st,.int .i64 x.m,.int .i64 x.sq]
def rC (x:RD):List V:=[.int .i64 x.b0,.int .i64 x.b1,.int .i64 x.b2,.int .i64 x.b3,.int .i64 x.b4,.int .i64 x.b5,.int .i64 x.b6,.int .i64 x.b7,.int .i64 x.h,.int .i64 x.n]
def pC (x:PD):List V:=[.int .i64 x.m,.int .i64 x.nx,.int .i64 x.r.b0,.int .i64 x.r.b1,.int .i64 x.r.b2,.int .i64 x.r.b3,.int .i64 x.r.b4,.int .i64 x.r.b5,.int .i64 x.r.b6,.int .i64 x.r.b7,.int .i64 x.r.h,.int .i64 x.r.n,.int .i64 x.sq]
def mC (x:MD):List V:=[.int .i64 x.p,.int .i64 x.g]
def tC (x:TD):List V:=[.int .i64 x.t,.int .i64 x.g]
def stL (rp rg rq rm rl:List (List V)) (c0 c1 c2 c3:Int) (w0 w1 w2 w3 rt:List (List V)) (ck pr:Int):List V :=
 [.sl false 1 rp,.sl false 5 rg,.sl false 13 rq,.sl false 2 rm,.sl false 1 rl,.int .i64 c0,.int .i64 c1,.int .i64 c2,.int .i64 c3,.sl false 1 w0,.sl false 1 w1,.sl false 1 w2,.sl false 1 w3,.sl false 2 rt,.int .i64 ck,.int .i64 pr]
def stC (s:SD):List V:=stL (s.prog.map fC) (s.gs.map gC) (s.ps.map pC) (s.ms.map mC) (s.gl.map iC) s.c0 s.c1 s.c2 s.c3 (s.w0.map iC) (s.w1.map iC) (s.w2.map iC) (s.w3.map iC) (s.ts.map tC) s.ck s.pr
def stO (s:SD):List V :=
 [.own 1 (s.prog.map fC),.own 5 (s.gs.map gC),.own 13 (s.ps.map pC),.own 2 (s.ms.map mC),.own 1 (s.gl.map iC),.int .i64 s.c0,.int .i64 s.c1,.int .i64 s.c2,.int .i64 s.c3,.own 1 (s.w0.map iC),.own 1 (s.w1.map iC),.own 1 (s.w2.map iC),.own 1 (s.w3.map iC),.own 2 (s.ts.map tC),.int .i64 s.ck,.int .i64 s.pr]
theorem shR_map {α:Type} (f:α->List V) (h:∀ x,V.shL (f x)=f x) (l:List α):V.shR (l.map f)=l.map f:=by
 induction l with
 |nil=>rfl
 |cons x l ih=>simp only [List.map_cons,V.shR,ih,h]
theorem shR_jC (l:List ID):V.shR (l.map jC)=l.map jC:=shR_map jC (fun _=>rfl) l
theorem shR_gC (l:List GD):V.shR (l.map gC)=l.map gC:=shR_map gC (fun _=>rfl) l
theorem shR_pC (l:List PD):V.shR (l.map pC)=l.map pC:=shR_map pC (fun _=>rfl) l
theorem shR_mC (l:List MD):V.shR (l.map mC)=l.map mC:=shR_map mC (fun _=>rfl) l
theorem shR_tC (l:List TD):V.shR (l.map tC)=l.map tC:=shR_map tC (fun _=>rfl) l
theorem shR_fC (l:List (List ID)):V.shR (l.map fC)=l.map fC:=shR_map fC (fun f=>by
 have:=shR_jC f
 simp only [fC,V.shL,V.sh,this]) l
theorem stR (prog:List (List ID)) (gs:List GD) (ps:List PD) (ms:List MD) (gl:List Int) (c0 c1 c2 c3:Int) (w0 w1 w2 w3:List Int) (ts:List TD) (ck pr:Int) :
  ∃
   rp rg rq rm rl r0 r1 r2 r3 rt:List (List V),(rp=prog.map fC/\V.shR rp=rp/\rp.length=prog.length)/\(rg=gs.map gC/\V.shR rg=rg/\rg.length=gs.length)/\(rq=ps.map pC/\V.shR rq=rq/\rq.length=ps.length)/\(rm=ms.map mC/\V.shR rm=rm/\rm.length=ms.length)/\(rl=gl.map iC/\V.shR rl=rl/\rl.length=gl.length)/\(r0=w0.map iC/\V.shR r0=r0/\r0.length=w0.length)/\(r1=w1.map iC/\V.shR r1=r1/\r1.length=w1.length)/\(r2=w2.map iC/\V.shR r2=r2/\r2.length=w2.length)/\(r3=w3.map iC/\V.shR r3=r3/\r3.length=w3.length)/\(rt=ts.map tC/\V.shR rt=rt/\rt.length=ts.length) /\
   stC ⟨prog,gs,ps,ms,gl,c0,c1,c2,c3,w0,w1,w2,w3,ts,ck,pr⟩=stL rp rg rq rm rl c0 c1 c2 c3 r0 r1 r2 r3 rt ck pr :=
 ⟨_,_,_,_,_,_,_,_,_,_,⟨rfl,shR_fC prog,List.length_map _⟩,⟨rfl,shR_gC gs,List.length_map _⟩,⟨rfl,shR_pC ps,List.length_map _⟩,⟨rfl,shR_mC ms,List.length_map _⟩,⟨rfl,shR_iC gl,List.length_map _⟩,⟨rfl,shR_iC w0,List.length_map _⟩,⟨rfl,shR_iC w1,List.length_map _⟩,⟨rfl,shR_iC w2,List.length_map _⟩,⟨rfl,shR_iC w3,List.length_map _⟩,⟨rfl,shR_tC ts,List.length_map _⟩,rfl⟩
theorem fr_iC (l:List Int):okRows true (l.map iC)=true:=okRows_map iC (fun _=>rfl) l
theorem fr_jC (l:List ID):okRows true (l.map jC)=true:=okRows_map jC (fun _=>rfl) l
theorem fr_gC (l:List GD):okRows true (l.map gC)=true:=okRows_map gC (fun _=>rfl) l
theorem fr_pC (l:List PD):okRows true (l.map pC)=true:=okRows_map pC (fun _=>rfl) l
theorem fr_mC (l:List MD):okRows true (l.map mC)=true:=okRows_map mC (fun _=>rfl) l
theorem fr_tC (l:List TD):okRows true (l.map tC)=true:=okRows_map tC (fun _=>rfl) l
theorem fr_iCf {α:Type} (f:α->Int) (l:List α):okRows true (l.map (iC ∘ f))=true:=okRows_map _ (fun _=>rfl) l
theorem fr_fC (l:List (List ID)):okRows false (l.map fC)=true:=okRows_map fC (fun _=>rfl) l
structure Fit (s:SD):Prop where
 prog:s.prog.length<=1000000
 code:∀ f∈s.prog,f.length<=1000000
 gs:s.gs.length<=1000000
 ps:s.ps.length<=1000000
 ms:s.ms.length<=1000000
 gl:s.gl.length<=1000000
 w0:s.w0.length<=1000000
 w1:s.w1.length<=1000000
 w2:s.w2.length<=1000000
 w3:s.w3.length<=1000000
 ts:s.ts.length<=1000000
theorem drop_cases {α:Type} {l:List α} {i:Nat} (h:i<=l.length):(i=l.length/\l.drop i=[])\/(i < l.length/\∃ x,l.drop i=x::l.drop (i+1)/\l[i]?=some x):=by
 rcases Nat.lt_or_ge i l.length with hi|hi
 ·exact .inr ⟨hi,l[i],List.drop_eq_getElem_cons hi,by simp [hi]⟩
 ·have:i=l.length:=by omega
  exact .inl ⟨this,by simp [this]⟩
theorem getD_map {α:Type} {f:α->List V} {l:List α} {i:Nat} {x:α} (h:l[i]?=some x):(l.map f).getD i []=f x:=by
 simp [List.getD_eq_getElem?_getD,h]
theorem getD_rows {α:Type} {f:α->List V} {l:List α} {ra:List (List V)} (ha:ra=l.map f) {i:Nat} {x:α} (h:l[i]?=some x):ra.getD i []=f x:=by
 rw [ha]; exact getD_map h
theorem take_succ_of {α:Type} {l:List α} {i:Nat} {x:α} (h:l[i]?=some x):l.take (i+1)=l.take i ++ [x]:=by
 obtain ⟨hi,rfl⟩:=List.getElem?_eq_some_iff.1 h
 exact List.take_succ_eq_append_getElem hi
theorem mem_of_get {α:Type} {l:List α} {i:Nat} {x:α} (h:l[i]?=some x):x∈l:=List.mem_of_getElem? h
end Go.Ab
