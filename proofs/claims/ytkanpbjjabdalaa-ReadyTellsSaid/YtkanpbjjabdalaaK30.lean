/-
  slices.IndexFunc, DeleteFunc, Index, Contains, of numbers.
  slices.IndexFunc, DeleteFunc, of timers; what the predicates of ready.Out say.
-/
import Derived.Test.YtkanpbjjabdalaaK10
import Derived.Test.YtkanpbjjabdalaaK22
set_option linter.all false
namespace Go.Ab
open Go Go.Proofs
set_option maxRecDepth 100000
def findI {α:Type} (p:α->Bool):Int->List α->Int
 |_,[] => -1
 |i,x::l=>if p x=true then i else findI p (i+1) l
theorem findI_none {α:Type} {p:α->Bool}:∀ {l:List α} {i:Int},0<=i->(findI p i l = -1↔∀ x∈l,p x=false)
 |[],i,_=>by simp [findI]
 |x :: l,i,h=>by
  unfold findI
  by_cases hx:p x=true
  ·rw [if_pos hx]
   constructor
   ·intro e; omega
   ·intro hall; rw [hall x (by simp)] at hx; cases hx
  ·rw [if_neg hx,findI_none (by omega)]
   simp [hx]
theorem findI_some {α:Type} {p:α->Bool}:∀ {l:List α} {i:Int},0<=i->findI p i l ≠ -1->∃ k:Nat,findI p i l=i+k/\k < l.length/\(∀ x∈l.take k,p x=false)/\∀ x,l[k]?=some x->p x=true
 |[],i,_,h=>by simp [findI] at h
 |x :: l,i,h0,h=>by
  unfold findI at h ⊢
  by_cases hx:p x=true
  ·rw [if_pos hx] at h ⊢
   exact ⟨0,by simp,by simp,by simp,fun y hy=>by simp at hy; subst hy; exact hx⟩
  ·rw [if_neg hx] at h ⊢
   obtain ⟨k,h1,h2,h3,h4⟩:=findI_some (by omega) h
   refine ⟨k+1,by omega,by simp; omega,fun y hy=>?_,fun y hy=>h4 y (by simpa using hy)⟩
   rw [List.take_succ_cons] at hy
   rcases List.mem_cons.1 hy with rfl|hy
   ·simpa using hx
   ·exact h3 y hy
def PredI (F:FuncId) (g:Int) (p:Int->Bool):Prop:=callable Try.prog F=true/\∀ x,∃ o,CallsV Try.prog F [.int .i64 x,.cp [.int .i64 g] 0] (.bool (p x)) o true
set_option maxHeartbeats 1000000 in
theorem c111 (l:List Int) (hl:l.length<=1000000) (F:FuncId) (g:Int) (p:Int->Bool) (hp:PredI F g p) (z:Int) (hz:z=findI p 0 l) :
  CallsV Try.prog 111 [.sl false 1 (l.map iC),.fn F [] [.cp [.int .i64 g] 0]] (.int .i64 z) [.undef,.undef] true:=by
 obtain ⟨ra,h_ra⟩ : ∃ r,r=l.map iC:=⟨_,rfl⟩
 have s_ra:V.shR ra=ra:=by rw [h_ra]; exact shR_iC l
 have l_ra:ra.length=l.length:=by simp [h_ra]
 rw [<- h_ra]
 refine callsV_q hD Try.func111 ok111 rfl rfl (by simp only [List.map_cons,List.map_nil,V.sh,V.shL,stL,s_ra]) fun P Q hP hQ=>?_
 obtain ⟨hcl,hp⟩:=hp
 repeat' (cbv; first|refine .y ?_|refine .n ?_|refine .s (fun hc=>?_) fun hc=>?_|refine .a fun v hv=>?_|refine .d ?_|refine .u fun vr vn hvr hvn hvl=>?_|fail)
 all_goals (try cbv)
 obtain ⟨m,hm⟩ : ∃ m,m=v:=⟨_,rfl⟩
 rw [<- hm]
 refine LoopQ.to (ι:=Int) (fun i=>⟨tab .undef [(0,.sl false 1 ra),(1,.fn F [] [.cp [.int .i64 g] 0]),(7,.int .i64 m),(8,.int .i64 i)],tab .dead []⟩)
  (fun i=>0<=i/\i.toNat<=l.length/\z=findI p i (l.drop i.toNat)) (fun i=>l.length - i.toNat) 0 ⟨by omega,by omega,hz⟩ rfl fun i ⟨i0,i1,hi⟩ A hA=>?_
 rcases drop_cases i1 with ⟨e,hd⟩|⟨hlt,x,hd,hx⟩
 ·rw [hd,findI] at hi
  subst hi
  repeat' (cbv; first|refine .y ?_|refine .n ?_|refine .s (fun hc=>?_) fun hc=>?_|refine .a fun v hv=>?_|refine .d ?_|refine .u fun vr vn hvr hvn hvl=>?_|fail)
  all_goals (try cbv)
  (refine hQ _ ?_; exact ⟨rfl,rfl,rfl,rfl,rfl⟩)
 ·rw [hd,findI] at hi
  have ga:ra.getD i.toNat []=[.int .i64 x]:=getD_rows h_ra hx
  obtain ⟨o,cx⟩:=hp x
  obtain ⟨b,hb⟩ : ∃ b,b=p x:=⟨_,rfl⟩
  rw [<- hb] at cx hi
  cases b with
  |true =>
   rw [if_pos rfl] at hi
   subst hi
   try rw [<- hP] at cx
   repeat' (cbv; first|refine .y ?_|refine .n ?_|refine .s (fun hc=>?_) fun hc=>?_|refine .row ga ?_|refine CanQ.to (hP ▸ hcl) ?_|refine .gq cx ?_|refine .a fun v hv=>?_|refine .d ?_|refine .u fun vr vn hvr hvn hvl=>?_|fail)
   all_goals (try cbv)
   (refine hQ _ ?_; exact ⟨rfl,rfl,rfl,rfl,rfl⟩)
  |false =>
   rw [if_neg (by simp)] at hi
   try rw [<- hP] at cx
   repeat' (cbv; first|refine .y ?_|refine .n ?_|refine .s (fun hc=>?_) fun hc=>?_|refine .row ga ?_|refine CanQ.to (hP ▸ hcl) ?_|refine .gq cx ?_|refine .a fun v hv=>?_|refine .d ?_|refine .u fun vr vn hvr hvn hvl=>?_|fail)
   all_goals (try cbv)
   exact hA _ _ ⟨by omega,by omega,by rw [hi]; congr 2 <;> omega⟩ (by omega) rfl
structure DelI (α:Type) where
 i:Int
 j:Int
 ds:List α
 rs:List (List V)
theorem filt_take {α:Type} (p:α->Bool) {l:List α} {j:Nat} {x:α} (hx:l[j]?=some x):(l.take (j+1)).filter (fun x=>!p x)=(l.take j).filter (fun x=>!p x) ++ if p x=true then [] else [x]:=by
 rw [take_succ_of hx,List.filter_append]
 cases h:p x <;> simp [h]
structure DelOk {α:Type} (p:α->Bool) (l:List α) (i j:Nat) (ds:List α):Prop where
 lt:i < j
 le:j<=l.length
 len:ds.length=l.length
 tk:ds.take i=(l.take j).filter fun x=>!p x
 dr:ds.drop j=l.drop j
theorem DelOk.skip {α:Type} {p:α->Bool} {l:List α} {i j:Nat} {ds:List α} (h:DelOk p l i j ds) {x:α} (hx:l[j]?=some x) (hp:p x=true):DelOk p l i (j+1) ds:=by
 have hlt:=(List.getElem?_eq_some_iff.1 hx).1
 have h1:=h.lt
 refine ⟨by omega,by omega,h.len,by rw [filt_take p hx,if_pos hp,List.append_nil,h.tk],?_⟩
 have:=congrArg (List.drop 1) h.dr
 simpa [List.drop_drop] using this
theorem DelOk.keep {α:Type} {p:α->Bool} {l:List α} {i j:Nat} {ds:List α} (h:DelOk p l i j ds) {x:α} (hx:l[j]?=some x) (hp:p x=false):DelOk p l (i+1) (j+1) (ds.set i x):=by
 have hlt:=(List.getElem?_eq_some_iff.1 hx).1
 have h1:=h.lt
 have h2:=h.len
 refine ⟨by omega,by omega,by simpa using h.len,?_,?_⟩
 ·rw [filt_take p hx,if_neg (by simp [hp]),<- h.tk,List.take_succ_eq_append_getElem (by simp; omega),List.take_set_of_le (by omega)]; simp
 ·rw [List.drop_set_of_lt (by omega)]
  have:=congrArg (List.drop 1) h.dr
  simpa [List.drop_drop] using this
theorem DelOk.at' {α:Type} {p:α->Bool} {l:List α} {i j:Nat} {ds:List α} (h:DelOk p l i j ds) {x:α} (hx:l[j]?=some x):ds[j]?=some x:=by
 have:=congrArg (fun q=>q[0]?) h.dr
 simp only [List.getElem?_drop,Nat.add_zero] at this
 rw [this,hx]
theorem DelOk.done {α:Type} {p:α->Bool} {l:List α} {i j:Nat} {ds:List α} (h:DelOk p l i j ds) (hj:j=l.length):ds.take i=l.filter fun x=>!p x:=by
 rw [h.tk,hj,List.take_length]
theorem DelOk.first {α:Type} {p:α->Bool} {l:List α} {k:Nat} (hk:k < l.length) (h3:∀ x∈l.take k,p x=false) (h4:∀ x,l[k]?=some x->p x=true):DelOk p l k (k+1) l:=by
 refine ⟨by omega,by omega,rfl,?_,rfl⟩
 rw [filt_take p (show l[k]?=some l[k] by simp [hk]),if_pos (h4 _ (by simp [hk])),List.append_nil]
 exact (List.filter_eq_self.2 fun x hx=>by simp [h3 x hx]).symm
set_option maxHeartbeats 800000 in
theorem c89 (l:List Int) (hl:l.length<=1000000) (F:FuncId) (g:Int) (p:Int->Bool) (hp:PredI F g p) :
  CallsV Try.prog 89 [.own 1 (l.map iC),.fn F [] [.cp [.int .i64 g] 0]] (.own 1 ((l.filter fun x=>!p x).map iC)) [.undef,.undef] true:=by
 obtain ⟨z,hz⟩ : ∃ z,z=findI p 0 l:=⟨_,rfl⟩
 have ci:=c111 l hl F g p hp z hz
 obtain ⟨hcl,hp⟩:=hp
 have fr:FrR _:=⟨fr_iC (l.filter fun x=>!p x)⟩
 obtain ⟨ra,h_ra⟩ : ∃ r,r=l.map iC:=⟨_,rfl⟩
 have s_ra:V.shR ra=ra:=by rw [h_ra]; exact shR_iC l
 have l_ra:ra.length=l.length:=by simp [h_ra]
 rw [<- h_ra] at ci ⊢
 by_cases hz1:z = -1
 ·have hall:=(findI_none (by omega)).1 (hz ▸ hz1)
  have e:(l.filter fun x=>!p x)=l:=List.filter_eq_self.2 fun x hx=>by simp [hall x hx]
  rw [e,<- h_ra] at fr ⊢
  subst hz1
  clear hz
  refine callsV_l hD Try.func89 ok89 rfl rfl (by simp only [List.map_cons,List.map_nil,V.sh,V.shL,stL,stN,stK,stH,s_ra]) fun P L Q hP hL hQ=>?_
  rw [<- hP] at ci
  have lL:L ra=ra.length:=hL ra
  repeat' (cbv; first|refine .y ?_|refine .n ?_|refine .s (fun hc=>?_) fun hc=>?_|refine .x ?_|refine .r ?_|refine .e fun v hv=>?_|refine .a fun v hv=>?_|refine .d ?_|refine .u fun vr vn hvr hvn hvl=>?_|fail)
  all_goals (try cbv)
  (refine hQ _ ⟨?_,?_,?_,?_,?_⟩ <;> (try cbv) <;> (repeat' first|exact True.intro|exact rfl|assumption|exact FrR.mk rfl|exact FrS.mk rfl|(rw [hL]; rfl)|refine ⟨?_,?_⟩|fail))
 ·obtain ⟨k,h1,h2,h3,h4⟩:=findI_some (by omega) (hz ▸ hz1)
  have hk0:=DelOk.first h2 h3 h4
  have hzk:0<=z/\z.toNat=k:=by omega
  obtain ⟨rf,h_rf⟩ : ∃ r,r=(l.filter fun x=>!p x).map iC:=⟨_,rfl⟩
  rw [<- h_rf] at fr ⊢
  clear hz h1 h3 h4
  refine callsV_l hD Try.func89 ok89 rfl rfl (by simp only [List.map_cons,List.map_nil,V.sh,V.shL,stL,stN,stK,stH,s_ra]) fun P L Q hP hL hQ=>?_
  rw [<- hP] at ci hcl
  have lL:L ra=ra.length:=hL ra
  repeat' (cbv; first|refine .y ?_|refine .n ?_|refine .s (fun hc=>?_) fun hc=>?_|refine .x ?_|refine .r ?_|refine .e fun v hv=>?_|refine .a fun v hv=>?_|refine .d ?_|refine .u fun vr vn hvr hvn hvl=>?_|fail)
  all_goals (try cbv)
  refine LoopQ.to (ι:=DelI Int) (fun q=>⟨tab .undef [(0,.sref 100 0 (L ra)),(1,.fn F [] [.cp [.int .i64 g] 0]),(5,.int .i64 q.i),(6,.int .i64 q.j)],tab .dead [(100,.rows 1 q.rs)]⟩)
   (fun q=>0<=q.i/\0<=q.j/\DelOk p l q.i.toNat q.j.toNat q.ds/\q.rs=q.ds.map iC) (fun q=>l.length - q.j.toNat) ⟨z,v,l,ra⟩ ⟨by dsimp only; omega,by dsimp only; omega,by dsimp only; rw [hzk.2,show v.toNat=k+1 by omega]; exact hk0,h_ra⟩ rfl fun ⟨i,j,ds,rs⟩ ⟨i0,j0,hd,hrs⟩ A hA=>?_
  dsimp only at i0 j0 hd hrs ⊢
  have hlen:=hd.len
  have hlt:=hd.lt
  have hle:=hd.le
  have lrs:rs.length=l.length:=by rw [hrs]; simpa using hlen
  clear ci h2 hk0 hzk
  obtain ⟨ki,hki⟩ : ∃ k,0+i.toNat=k:=⟨_,rfl⟩
  rcases drop_cases hle with ⟨e,_⟩|⟨hlt2,x,_,hx⟩
  ·have hdone:=hd.done e
   obtain ⟨kn,hkn⟩ : ∃ k,L ra - i.toNat=k:=⟨_,rfl⟩
   have e1:(0+i.toNat,L ra - i.toNat)=(ki,kn):=by rw [hki,hkn]
   obtain ⟨rc,e2⟩ : ∃ r,clearR [.int .i64 0] ki kn rs=r:=⟨_,rfl⟩
   have hrc:rc.length=rs.length:=by rw [<- e2]; unfold clearR; simp; omega
   have e3:(rc.take i.toNat,i.toNat)=(rf,ki):=by
    rw [<- e2,show i.toNat=ki by omega]
    congr 1
    unfold clearR
    rw [List.append_assoc,List.take_append_of_le_length (by simp; omega),List.take_take,h_rf,<- hdone,hrs,List.map_take,show i.toNat=ki by omega]; simp
   have e4:ki=L rf:=by
    rw [hL]
    have:=congrArg (fun q=>q.1.length) e3
    simp at this; omega
   clear hd hdone hrs h_rf h_ra hp
   repeat' (cbv; first|refine .y ?_|refine .n ?_|refine .s (fun hc=>?_) fun hc=>?_|refine .sl e1 ?_|refine Lt.to True.intro e2 ?_|refine Lt.to ⟨by omega,by omega,by omega⟩ e3 ?_|refine .x ?_|refine .r ?_|refine .e fun v hv=>?_|refine .a fun v hv=>?_|refine .d ?_|refine .u fun vr vn hvr hvn hvl=>?_|fail)
   all_goals (try cbv)
   (refine hQ _ ⟨?_,?_,?_,?_,?_⟩ <;> (try cbv) <;> (repeat' first|exact True.intro|exact rfl|assumption|exact FrR.mk rfl|exact FrS.mk rfl|(rw [hL]; rfl)|refine ⟨?_,?_⟩|fail))
  ·obtain ⟨kj,hkj⟩ : ∃ k,0+j.toNat=k:=⟨_,rfl⟩
   have gx:rs.getD kj []=[.int .i64 x]:=by rw [show kj=j.toNat by omega]; exact getD_rows hrs (hd.at' hx)
   obtain ⟨o,cx⟩:=hp x
   obtain ⟨b,hb⟩ : ∃ b,b=p x:=⟨_,rfl⟩
   rw [<- hb] at cx
   rw [<- hP] at cx
   cases b with
   |true =>
    have hn:=hd.skip hx hb.symm
    clear fr h_rf h_ra hb
    repeat' (cbv; first|refine .y ?_|refine .n ?_|refine .s (fun hc=>?_) fun hc=>?_|refine CanQ.to hcl ?_|refine .x ?_|refine .r ?_|refine .e fun v hv=>?_|refine .a fun v hv=>?_|refine .d ?_|refine .u fun vr vn hvr hvn hvl=>?_|fail)
    all_goals (try cbv)
    exact hA ⟨i,v,ds,rs⟩ _ ⟨i0,by dsimp only; omega,by dsimp only; rw [show v.toNat=j.toNat+1 by omega]; exact hn,hrs⟩ (by dsimp only; omega) (by cbv)
   |false =>
    have hn:=hd.keep hx hb.symm
    obtain ⟨y,hy⟩ : ∃ y,ds[ki]?=some y:=⟨_,List.getElem?_eq_getElem (by omega)⟩
    have gy:rs.getD ki []=[.int .i64 y]:=getD_rows hrs hy
    obtain ⟨r2,e2,g2,l2,q2⟩:=upd_row (show ki < rs.length by omega) gy 0 [.int .i64 x]
    clear fr h_rf h_ra hb
    obtain ⟨w,hw⟩ : ∃ w:Int,w=i+1:=⟨_,rfl⟩
    repeat' (cbv; first|refine .y ?_|refine .n ?_|refine .s (fun hc=>?_) fun hc=>?_|refine CanQ.to hcl ?_|refine .x ?_|refine .r ?_|refine .e fun v hv=>?_|refine .a fun v hv=>?_|refine .d ?_|refine .u fun vr vn hvr hvn hvl=>?_|fail)
    all_goals (try cbv)
    refine hA ⟨w,v,ds.set i.toNat x,r2⟩ _ ⟨by dsimp only; omega,by dsimp only; omega,by dsimp only; rw [show v.toNat=j.toNat+1 by omega,show w.toNat=i.toNat+1 by omega]; exact hn,?_⟩ (by dsimp only; omega) (by cbv)
    dsimp only
    rw [q2,map_set,<- hrs,show i.toNat=ki by omega]; rfl
end Go.Ab

namespace Go.Ab
open Go Go.Proofs
set_option maxRecDepth 100000
def PredT (F:FuncId) (g:Int) (p:TD->Bool):Prop:=callable Try.prog F=true/\∀ x,∃ o,CallsV Try.prog F [.agg (tC x),.cp [.int .i64 g] 0] (.bool (p x)) o true
set_option maxHeartbeats 1000000 in
theorem c112 (l:List TD) (hl:l.length<=1000000) (F:FuncId) (g:Int) (p:TD->Bool) (hp:PredT F g p) (z:Int) (hz:z=findI p 0 l) :
  CallsV Try.prog 112 [.sl false 2 (l.map tC),.fn F [] [.cp [.int .i64 g] 0]] (.int .i64 z) [.undef,.undef] true:=by
 obtain ⟨ra,h_ra⟩ : ∃ r,r=l.map tC:=⟨_,rfl⟩
 have s_ra:V.shR ra=ra:=by rw [h_ra]; exact shR_tC l
 have l_ra:ra.length=l.length:=by simp [h_ra]
 rw [<- h_ra]
 refine callsV_q hD Try.func112 ok112 rfl rfl (by simp only [List.map_cons,List.map_nil,V.sh,V.shL,stL,s_ra]) fun P Q hP hQ=>?_
 obtain ⟨hcl,hp⟩:=hp
 repeat' (cbv; first|refine .y ?_|refine .n ?_|refine .s (fun hc=>?_) fun hc=>?_|refine .a fun v hv=>?_|refine .d ?_|refine .u fun vr vn hvr hvn hvl=>?_|fail)
 all_goals (try cbv)
 obtain ⟨m,hm⟩ : ∃ m,m=v:=⟨_,rfl⟩
 rw [<- hm]
 refine LoopQ.to (ι:=Int) (fun i=>⟨tab .undef [(0,.sl false 2 ra),(1,.fn F [] [.cp [.int .i64 g] 0]),(7,.int .i64 m),(8,.int .i64 i)],tab .dead []⟩)
  (fun i=>0<=i/\i.toNat<=l.length/\z=findI p i (l.drop i.toNat)) (fun i=>l.length - i.toNat) 0 ⟨by omega,by omega,hz⟩ rfl fun i ⟨i0,i1,hi⟩ A hA=>?_
 rcases drop_cases i1 with ⟨e,hd⟩|⟨hlt,x,hd,hx⟩
 ·rw [hd,findI] at hi
  subst hi
  repeat' (cbv; first|refine .y ?_|refine .n ?_|refine .s (fun hc=>?_) fun hc=>?_|refine .a fun v hv=>?_|refine .d ?_|refine .u fun vr vn hvr hvn hvl=>?_|fail)
  all_goals (try cbv)
  (refine hQ _ ?_; exact ⟨rfl,rfl,rfl,rfl,rfl⟩)
 ·rw [hd,findI] at hi
  have ga:ra.getD i.toNat []=[.int .i64 x.t,.int .i64 x.g]:=getD_rows h_ra hx
  obtain ⟨o,cx⟩:=hp x
  obtain ⟨b,hb⟩ : ∃ b,b=p x:=⟨_,rfl⟩
  rw [<- hb] at cx hi
  cases b with
  |true =>
   rw [if_pos rfl] at hi
   subst hi
   try rw [<- hP] at cx
   repeat' (cbv; first|refine .y ?_|refine .n ?_|refine .s (fun hc=>?_) fun hc=>?_|refine .row ga ?_|refine CanQ.to (hP ▸ hcl) ?_|refine .gq cx ?_|refine .a fun v hv=>?_|refine .d ?_|refine .u fun vr vn hvr hvn hvl=>?_|fail)
   all_goals (try cbv)
   (refine hQ _ ?_; exact ⟨rfl,rfl,rfl,rfl,rfl⟩)
  |false =>
   rw [if_neg (by simp)] at hi
   try rw [<- hP] at cx
   repeat' (cbv; first|refine .y ?_|refine .n ?_|refine .s (fun hc=>?_) fun hc=>?_|refine .row ga ?_|refine CanQ.to (hP ▸ hcl) ?_|refine .gq cx ?_|refine .a fun v hv=>?_|refine .d ?_|refine .u fun vr vn hvr hvn hvl=>?_|fail)
   all_goals (try cbv)
   exact hA _ _ ⟨by omega,by omega,by rw [hi]; congr 2 <;> omega⟩ (by omega) rfl
set_option maxHeartbeats 800000 in
theorem c91 (l:List TD) (hl:l.length<=1000000) (F:FuncId) (g:Int) (p:TD->Bool) (hp:PredT F g p) :
  CallsV Try.prog 91 [.own 2 (l.map tC),.fn F [] [.cp [.int .i64 g] 0]] (.own 2 ((l.filter fun x=>!p x).map tC)) [.undef,.undef] true:=by
 obtain ⟨z,hz⟩ : ∃ z,z=findI p 0 l:=⟨_,rfl⟩
 have ci:=c112 l hl F g p hp z hz
 obtain ⟨hcl,hp⟩:=hp
 have fr:FrR _:=⟨fr_tC (l.filter fun x=>!p x)⟩
 obtain ⟨ra,h_ra⟩ : ∃ r,r=l.map tC:=⟨_,rfl⟩
 have s_ra:V.shR ra=ra:=by rw [h_ra]; exact shR_tC l
 have l_ra:ra.length=l.length:=by simp [h_ra]
 rw [<- h_ra] at ci ⊢
 by_cases hz1:z = -1
 ·have hall:=(findI_none (by omega)).1 (hz ▸ hz1)
  have e:(l.filter fun x=>!p x)=l:=List.filter_eq_self.2 fun x hx=>by simp [hall x hx]
  rw [e,<- h_ra] at fr ⊢
  subst hz1
  clear hz
  refine callsV_l hD Try.func91 ok91 rfl rfl (by simp only [List.map_cons,List.map_nil,V.sh,V.shL,stL,stN,stK,stH,s_ra]) fun P L Q hP hL hQ=>?_
  rw [<- hP] at ci
  have lL:L ra=ra.length:=hL ra
  repeat' (cbv; first|refine .y ?_|refine .n ?_|refine .s (fun hc=>?_) fun hc=>?_|refine .x ?_|refine .r ?_|refine .e fun v hv=>?_|refine .a fun v hv=>?_|refine .d ?_|refine .u fun vr vn hvr hvn hvl=>?_|fail)
  all_goals (try cbv)
  (refine hQ _ ⟨?_,?_,?_,?_,?_⟩ <;> (try cbv) <;> (repeat' first|exact True.intro|exact rfl|assumption|exact FrR.mk rfl|exact FrS.mk rfl|(rw [hL]; rfl)|refine ⟨?_,?_⟩|fail))
 ·obtain ⟨k,h1,h2,h3,h4⟩:=findI_some (by omega) (hz ▸ hz1)
  have hk0:=DelOk.first h2 h3 h4
  have hzk:0<=z/\z.toNat=k:=by omega
  obtain ⟨rf,h_rf⟩ : ∃ r,r=(l.filter fun x=>!p x).map tC:=⟨_,rfl⟩
  rw [<- h_rf] at fr ⊢
  clear hz h1 h3 h4
  refine callsV_l hD Try.func91 ok91 rfl rfl (by simp only [List.map_cons,List.map_nil,V.sh,V.shL,stL,stN,stK,stH,s_ra]) fun P L Q hP hL hQ=>?_
  rw [<- hP] at ci hcl
  have lL:L ra=ra.length:=hL ra
  repeat' (cbv; first|refine .y ?_|refine .n ?_|refine .s (fun hc=>?_) fun hc=>?_|refine .x ?_|refine .r ?_|refine .e fun v hv=>?_|refine .a fun v hv=>?_|refine .d ?_|refine .u fun vr vn hvr hvn hvl=>?_|fail)
  all_goals (try cbv)
  refine LoopQ.to (ι:=DelI TD) (fun q=>⟨tab .undef [(0,.sref 100 0 (L ra)),(1,.fn F [] [.cp [.int .i64 g] 0]),(5,.int .i64 q.i),(6,.int .i64 q.j)],tab .dead [(100,.rows 2 q.rs)]⟩)
   (fun q=>0<=q.i/\0<=q.j/\DelOk p l q.i.toNat q.j.toNat q.ds/\q.rs=q.ds.map tC) (fun q=>l.length - q.j.toNat) ⟨z,v,l,ra⟩ ⟨by dsimp only; omega,by dsimp only; omega,by dsimp only; rw [hzk.2,show v.toNat=k+1 by omega]; exact hk0,h_ra⟩ rfl fun ⟨i,j,ds,rs⟩ ⟨i0,j0,hd,hrs⟩ A hA=>?_
  dsimp only at i0 j0 hd hrs ⊢
  have hlen:=hd.len
  have hlt:=hd.lt
  have hle:=hd.le
  have lrs:rs.length=l.length:=by rw [hrs]; simpa using hlen
  clear ci h2 hk0 hzk
  obtain ⟨ki,hki⟩ : ∃ k,0+i.toNat=k:=⟨_,rfl⟩
  rcases drop_cases hle with ⟨e,_⟩|⟨hlt2,x,_,hx⟩
  ·have hdone:=hd.done e
   obtain ⟨kn,hkn⟩ : ∃ k,L ra - i.toNat=k:=⟨_,rfl⟩
   have e1:(0+i.toNat,L ra - i.toNat)=(ki,kn):=by rw [hki,hkn]
   obtain ⟨rc,e2⟩ : ∃ r,clearR [.int .i64 0,.int .i64 0] ki kn rs=r:=⟨_,rfl⟩
   have hrc:rc.length=rs.length:=by rw [<- e2]; unfold clearR; simp; omega
   have e3:(rc.take i.toNat,i.toNat)=(rf,ki):=by
    rw [<- e2,show i.toNat=ki by omega]
    congr 1
    unfold clearR
    rw [List.append_assoc,List.take_append_of_le_length (by simp; omega),List.take_take,h_rf,<- hdone,hrs,List.map_take,show i.toNat=ki by omega]; simp
   have e4:ki=L rf:=by
    rw [hL]
    have:=congrArg (fun q=>q.1.length) e3
    simp at this; omega
   clear hd hdone hrs h_rf h_ra hp
   repeat' (cbv; first|refine .y ?_|refine .n ?_|refine .s (fun hc=>?_) fun hc=>?_|refine .sl e1 ?_|refine Lt.to True.intro e2 ?_|refine Lt.to ⟨by omega,by omega,by omega⟩ e3 ?_|refine .x ?_|refine .r ?_|refine .e fun v hv=>?_|refine .a fun v hv=>?_|refine .d ?_|refine .u fun vr vn hvr hvn hvl=>?_|fail)
   all_goals (try cbv)
   (refine hQ _ ⟨?_,?_,?_,?_,?_⟩ <;> (try cbv) <;> (repeat' first|exact True.intro|exact rfl|assumption|exact FrR.mk rfl|exact FrS.mk rfl|(rw [hL]; rfl)|refine ⟨?_,?_⟩|fail))
  ·obtain ⟨kj,hkj⟩ : ∃ k,0+j.toNat=k:=⟨_,rfl⟩
   have gx:rs.getD kj []=[.int .i64 x.t,.int .i64 x.g]:=by rw [show kj=j.toNat by omega]; exact getD_rows hrs (hd.at' hx)
   obtain ⟨o,cx⟩:=hp x
   obtain ⟨b,hb⟩ : ∃ b,b=p x:=⟨_,rfl⟩
   rw [<- hb] at cx
   rw [<- hP] at cx
   cases b with
   |true =>
    have hn:=hd.skip hx hb.symm
    clear fr h_rf h_ra hb
    repeat' (cbv; first|refine .y ?_|refine .n ?_|refine .s (fun hc=>?_) fun hc=>?_|refine CanQ.to hcl ?_|refine .x ?_|refine .r ?_|refine .e fun v hv=>?_|refine .a fun v hv=>?_|refine .d ?_|refine .u fun vr vn hvr hvn hvl=>?_|fail)
    all_goals (try cbv)
    exact hA ⟨i,v,ds,rs⟩ _ ⟨i0,by dsimp only; omega,by dsimp only; rw [show v.toNat=j.toNat+1 by omega]; exact hn,hrs⟩ (by dsimp only; omega) (by cbv)
   |false =>
    have hn:=hd.keep hx hb.symm
    obtain ⟨y,hy⟩ : ∃ y,ds[ki]?=some y:=⟨_,List.getElem?_eq_getElem (by omega)⟩
    have gy:rs.getD ki []=[.int .i64 y.t,.int .i64 y.g]:=getD_rows hrs hy
    obtain ⟨r2,e2,g2,l2,q2⟩:=upd_row (show ki < rs.length by omega) gy 0 [.int .i64 x.t,.int .i64 x.g]
    clear fr h_rf h_ra hb
    obtain ⟨w,hw⟩ : ∃ w:Int,w=i+1:=⟨_,rfl⟩
    repeat' (cbv; first|refine .y ?_|refine .n ?_|refine .s (fun hc=>?_) fun hc=>?_|refine CanQ.to hcl ?_|refine .x ?_|refine .r ?_|refine .e fun v hv=>?_|refine .a fun v hv=>?_|refine .d ?_|refine .u fun vr vn hvr hvn hvl=>?_|fail)
    all_goals (try cbv)
    refine hA ⟨w,v,ds.set i.toNat x,r2⟩ _ ⟨by dsimp only; omega,by dsimp only; omega,by dsimp only; rw [show v.toNat=j.toNat+1 by omega,show w.toNat=i.toNat+1 by omega]; exact hn,?_⟩ (by dsimp only; omega) (by cbv)
    dsimp only
    rw [q2,map_set,<- hrs,show i.toNat=ki by omega]; rfl
theorem c90 (x g:Int) (b:Bool) (hb:b=decide (x=g)):CallsV Try.prog 90 [.int .i64 x,.cp [.int .i64 g] 0] (.bool b) [.undef,.undef] true:=by
 refine callsV_q hD Try.func90 ok90 rfl rfl rfl fun P Q hP hQ=>?_
 repeat' (cbv; first|refine .y ?_|refine .n ?_|refine .s (fun hc=>?_) fun hc=>?_|refine .a fun v hv=>?_|refine .d ?_|refine .u fun vr vn hvr hvn hvl=>?_|fail)
 all_goals (try cbv)
 all_goals first
  |(
    obtain rfl:b=true:=by rw [hb]; exact decide_eq_true (by omega)
    (refine hQ _ ?_; exact ⟨rfl,rfl,rfl,rfl,rfl⟩))
  |(
    obtain rfl:b=false:=by rw [hb]; exact decide_eq_false (by omega)
    (refine hQ _ ?_; exact ⟨rfl,rfl,rfl,rfl,rfl⟩))
theorem pred_out (g:Int):PredI 90 g fun x=>decide (x=g):=⟨by kernel_rfl,fun x=>⟨_,c90 x g _ rfl⟩⟩
theorem c92 (x:TD) (g:Int) (b:Bool) (hb:b=decide (x.g=g)):CallsV Try.prog 92 [.agg (tC x),.cp [.int .i64 g] 0] (.bool b) [.undef,.undef] true:=by
 obtain ⟨xt,xg⟩:=x
 dsimp only at hb
 refine callsV_q hD Try.func92 ok92 rfl rfl rfl fun P Q hP hQ=>?_
 repeat' (cbv; first|refine .y ?_|refine .n ?_|refine .s (fun hc=>?_) fun hc=>?_|refine .a fun v hv=>?_|refine .d ?_|refine .u fun vr vn hvr hvn hvl=>?_|fail)
 all_goals (try cbv)
 all_goals first
  |(
    obtain rfl:b=true:=by rw [hb]; exact decide_eq_true (by omega)
    (refine hQ _ ?_; exact ⟨rfl,rfl,rfl,rfl,rfl⟩))
  |(
    obtain rfl:b=false:=by rw [hb]; exact decide_eq_false (by omega)
    (refine hQ _ ?_; exact ⟨rfl,rfl,rfl,rfl,rfl⟩))
theorem predT_out (g:Int):PredT 92 g fun x=>decide (x.g=g):=⟨by kernel_rfl,fun x=>⟨_,c92 x g _ rfl⟩⟩
end Go.Ab
