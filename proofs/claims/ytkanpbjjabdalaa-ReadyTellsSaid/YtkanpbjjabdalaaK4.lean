/-
  Calls: variables that were handed over.
  Calls: what a call does to what is known.
  Calls: the operation.
  Each operation of the abstract machine is what the model's operation does: maps; is a slice nil?
  An own slice is cut to its first part: the operation is sound.
  An own slice's elements become zero: the operation is sound.
-/
import Derived.MapKept
import Derived.Test.YtkanpbjjabdalaaK3
set_option linter.all false
namespace Go.Ab
open Go
variable {E:Ent} {n:Sz} {C:Ctx} {st:St} {a:Act} {P:Program}
theorem kills_box {l:List Nat} {r:Nat} {cs:List V} (hr:r∉l) (h:st.heap r=.box cs):∃ cs',(st.kills l).heap r=.box cs'/\cs'.length=cs.length:=by
 cases l with
 |nil=>exact ⟨cs,h,rfl⟩
 |cons k l =>
  have:inl (k::l) r=false:=by rw [<- Bool.not_eq_true,inl_iff]; exact hr
  exact ⟨cs.map (V.kill1 (inl (k::l))),by simp [St.kills,St.killP,this,h,AO.kill],by simp⟩
theorem kills_mem {l:List Nat} {r:Nat} (hr:r∈l):(st.kills l).heap r=.dead:=by
 cases l with
 |nil=>simp at hr
 |cons k l=>simp [St.kills,St.killP,inl_iff.2 hr]
theorem kills_dead {l:List Nat} {r:Nat} (h:(st.heap r).isDead=true):((st.kills l).heap r).isDead=true:=by
 cases l with
 |nil=>exact h
 |cons k l =>
  simp only [St.kills,St.killP]
  split
  ·rfl
  ·cases hh:st.heap r <;> rw [hh] at h <;> simp [AO.isDead] at h ⊢
   rfl
theorem kills_live {l:List Nat} {r:Nat} (h:((st.kills l).heap r).isDead=false):r∉l/\(st.heap r).isDead=false:=by
 refine ⟨fun hr=>by rw [kills_mem hr] at h; simp [AO.isDead] at h,?_⟩
 rw [<- Bool.not_eq_true]
 intro hd
 rw [kills_dead hd] at h; cases h
theorem blank_wk {r off k:Nat} {cs:List V} {s:St} (hh:s.heap r=.box cs) (hl:off+k<=cs.length) :
  (∀ t,(s.blank r off k).env t=s.env t)/\(∀ q,Wk (s.heap q) ((s.blank r off k).heap q))/\∃ cs',(s.blank r off k).heap r=.box cs'/\∀ (j:Nat) (c:V),cs'[j]?=some c->off<=j->j < off+k->c=.undef:=by
 have hl':off+(List.replicate k V.undef).length<=cs.length:=by simpa using hl
 obtain ⟨s1,s2⟩:=setR_spec hl'
 have e:s.blank r off k=s.set r (.box (setR cs off (List.replicate k .undef))):=by simp [St.blank,hh]
 rw [e]
 refine ⟨fun t=>rfl,fun q=>?_,setR cs off (List.replicate k .undef),by simp [St.set,upd],fun j c hj h1 h2=>?_⟩
 ·by_cases hq:q=r
  ·subst hq
   refine .inr ⟨cs,_,hh,by simp [St.set,upd],s1,fun j c hj=>?_⟩
   rw [s2] at hj
   split at hj
   ·simp only [List.getElem?_replicate] at hj
    split at hj
    ·simp at hj; exact .inl hj.symm
    ·cases hj
   ·exact .inr hj
  ·exact .inl (by simp [St.set,upd,hq])
 ·rw [s2] at hj
  simp only [List.length_replicate] at hj
  rw [if_pos ⟨h1,h2⟩] at hj
  simp only [List.getElem?_replicate] at hj
  split at hj
  ·simp at hj; exact hj.symm
  ·cases hj
theorem blanks_spec:∀ (ps:List Pm) (s:St),(∀ x k,Pm.io x k∈ps->∃ r o cs,x.ev st=.ptr r o/\s.heap r=.box cs/\o+k<=cs.length) ->
  (∀ t,(blanks st ps s).env t=s.env t)/\(∀ q,Wk (s.heap q) ((blanks st ps s).heap q)) /\
  ∀ x k r o cs j c,Pm.io x k∈ps->x.ev st=.ptr r o->(blanks st ps s).heap r=.box cs->o<=j->j < o+k->cs[j]?=some c->c=.undef
 |[],s,_=>⟨fun _=>rfl,fun _=>.refl _,fun _ _ _ _ _ _ _ h=>by simp at h⟩
 |p :: ps,s,h=>by
  cases p with
  |io x k =>
   obtain ⟨r,o,cs,h1,h2,h3⟩:=h x k (by simp)
   obtain ⟨b1,b2,cs',b3,b4⟩:=blank_wk h2 h3
   have e:blanks st (.io x k::ps) s=blanks st ps (s.blank r o k):=by simp [blanks,h1]
   rw [e]
   obtain ⟨i1,i2,i3⟩:=blanks_spec ps (s.blank r o k) fun x' k' hm=>by
    obtain ⟨r',o',cs2,q1,q2,q3⟩:=h x' k' (by simp [hm])
    rcases b2 r' with e'|⟨c1,c2,e1,e2,e3,_⟩
    ·exact ⟨r',o',cs2,q1,e'.trans q2,q3⟩
    ·rw [q2] at e1; cases e1
     exact ⟨r',o',c2,q1,e2,by omega⟩
   refine ⟨fun t=>(i1 t).trans (b1 t),fun q=>(b2 q).trans (i2 q),fun x' k' r' o' cs2 j c hm q1 q2 q3 q4 q5=>?_⟩
   rcases List.mem_cons.1 hm with hm|hm
   ·cases hm
    rw [h1] at q1; cases q1
    rcases i2 r with e'|⟨c1,c2,e1,e2,e3,e4⟩
    ·rw [e',b3] at q2; cases q2
     exact b4 j c q5 q3 q4
    ·rw [b3] at e1; cases e1
     rw [e2] at q2; cases q2
     exact (e4 j c q5).elim id fun h=>b4 j c h q3 q4
   ·exact i3 x' k' r' o' cs2 j c hm q1 q2 q3 q4 q5
  |ro x =>
   obtain ⟨i1,i2,i3⟩:=blanks_spec ps s fun x' k' hm=>h x' k' (by simp [hm])
   exact ⟨i1,i2,fun x' k' r' o' cs2 j c hm=>i3 x' k' r' o' cs2 j c (by simpa using hm)⟩
  |mv x k =>
   obtain ⟨i1,i2,i3⟩:=blanks_spec ps s fun x' k' hm=>h x' k' (by simp [hm])
   exact ⟨i1,i2,fun x' k' r' o' cs2 j c hm=>i3 x' k' r' o' cs2 j c (by simpa using hm)⟩
theorem Thawed.comp' {os1 os2 ns1 ns2:List Nat} {x1 x2:List (Nat×AO)} {C1 C2:Ctx} (h1:Thawed E n C st a os1 ns1 ([],x1) C1) (h2:Thawed E n C1 (st.sets x1) a os2 ns2 ([],x2) C2) :
  Thawed E n C st a (os1 ++ os2) (ns1 ++ ns2) ([],x1 ++ x2) C2:=by
 refine ⟨by simp only [sets_append]; exact h2.inv,h2.w.trans h1.w,h1.le.trans h2.le,fun b hb hn=>?_,List.nil_sublist _,fun r hr=>by simp at hr,fun r hr=>?_,fun b off hn hx=>?_,h2.G.trans h1.G,fun r L q1 q2=>?_⟩
 ·simp only [List.mem_append,not_or] at hn
  exact h2.free b (h1.free b hb hn.1) hn.2
 ·simp only [List.mem_append,not_or] at hr
  simp only [sets_append]
  exact (h2.other r hr.2).trans (h1.other r hr.1)
 ·simp only [List.mem_append,not_or] at hn
  exact h1.F b off hn.1 (h2.F b off hn.2 hx)
 ·rcases h2.obj r L q1 q2 with ⟨q3,q4⟩|q3
  ·rcases h1.obj r L q3 q4 with q5|q5
   ·exact .inl q5
   ·exact .inr (List.mem_append_left _ q5)
  ·exact .inr (List.mem_append_right _ q3)
theorem backC_sound (h:Inv E n C st a) {old new:V} {u:Value} (hR:RB1 C new u) (hown:∀ b∈owns1 new u,Free E C b) (hdead:∀ r∈objC old,(st.heap r).isDead=true) (hno:(backC old new).1.noOwn=true) :
  ∃ C',Thawed E n C st a (owns1 new u) (objC old) ([],(backC old new).2) C'/\R C' (backC old new).1 u:=by
 by_cases hc:∃ s rows,new=.own s rows
 ·obtain ⟨s,rows,rfl⟩:=hc
  cases old with
  |sref r i k =>
   obtain ⟨C',t,hr⟩:=thawC_sound h (ns:=[r]) hR hown (by simp) (fun r' hr'=>hdead r' (by simpa [objC] using hr')) (fun ⟨_,_,e⟩=>by cases e)
   exact ⟨C',t,hr⟩
  |_=>simp [backC,V.noOwn] at hno
 ·have hne:∀ s rows,new≠.own s rows:=fun s rows e=>hc ⟨s,rows,e⟩
  have e:backC old new=(new,[]):=by unfold backC; split <;> first|exact absurd rfl (hne _ _)|rfl
  rw [e] at hno
  rw [RB1_other hne fun ks vs e=>by subst e; simp [V.noOwn] at hno] at hR
  rw [e]
  exact ⟨C,⟨h,rfl,h.le_grow (Ext.refl _) (fun _ _ h=>h),fun _ hb _=>hb,List.nil_sublist _,fun r hr=>by simp at hr,fun _ _=>rfl,fun _ _ _ h=>h,rfl,fun _ _ h1 h2=>.inl ⟨h1,h2⟩⟩,hR⟩
theorem backL_sound:∀ (olds news:List V) (us:List Value) {C:Ctx} {st:St},Inv E n C st a->olds.length=news.length->news.length=us.length->(∀ (j:Nat) (c:V),news[j]?=some c->RB1 C c (us.getD j undef)) ->
  (∀ b∈ownsL news us,Free E C b)->(ownsL news us).Nodup->(olds.flatMap objC).Nodup->(∀ r∈olds.flatMap objC,(st.heap r).isDead=true)->(backL olds news).1.all V.noOwn=true ->
  ∃ C',Thawed E n C st a (ownsL news us) (olds.flatMap objC) ([],(backL olds news).2) C'/\(backL olds news).1.length=us.length/\∀ (j:Nat) (c:V),(backL olds news).1[j]?=some c->R C' c (us.getD j undef)
 |[],[],[],C,st,h,_,_,_,_,_,_,_,_=>⟨C,⟨h,rfl,h.le_grow (Ext.refl _) (fun _ _ h=>h),fun _ hb _=>hb,List.nil_sublist _,fun r hr=>by simp at hr,fun _ _=>rfl,fun _ _ _ h=>h,rfl,fun _ _ h1 h2=>.inl ⟨h1,h2⟩⟩,rfl,fun j c hj=>by simp [backL] at hj⟩
 |[],_::_,_,_,_,_,hl,_,_,_,_,_,_,_=>by simp at hl
 |_::_,[],_,_,_,_,hl,_,_,_,_,_,_,_=>by simp at hl
 |_,[],_::_,_,_,_,_,hl,_,_,_,_,_,_=>by simp at hl
 |_,_::_,[],_,_,_,_,hl,_,_,_,_,_,_=>by simp at hl
 |o :: os,v::l,u::us,C,st,h,hlo,hl,hr,hf,hnd,hns,hd,hno=>by
  simp only [ownsL,List.nodup_append] at hnd
  obtain ⟨_,hnd2,hdj⟩:=hnd
  simp only [List.flatMap_cons,List.nodup_append] at hns
  obtain ⟨_,hns2,hnj⟩:=hns
  simp only [backL,List.all_cons,Bool.and_eq_true] at hno
  obtain ⟨C1,t1,r1⟩:=backC_sound h (hr 0 v rfl) (fun b hb=>hf b (by simp only [ownsL,List.mem_append]; exact .inl hb)) (fun r hr=>hd r (by simp only [List.flatMap_cons,List.mem_append]; exact .inl hr)) hno.1
  have hr':∀ (j:Nat) (c:V),l[j]?=some c->RB1 C1 c (us.getD j undef):=fun j c hj=>RB1_mono t1.le t1.w (by simpa using hr (j+1) c (by simpa using hj))
  have hf':∀ b∈ownsL l us,Free E C1 b:=fun b hb=>t1.free b (hf b (by simp only [ownsL,List.mem_append]; exact .inr hb)) fun hb'=>hdj b hb' b hb rfl
  have hd':∀ r∈os.flatMap objC,((st.sets (backC o v).2).heap r).isDead=true:=fun r hr=>by
   rw [t1.other r fun h'=>hnj r h' r hr rfl]
   exact hd r (by simp only [List.flatMap_cons,List.mem_append]; exact .inr hr)
  obtain ⟨C2,t2,l2,r2⟩:=backL_sound os l us t1.inv (by simpa using hlo) (by simpa using hl) hr' hf' hnd2 hns2 hd' hno.2
  refine ⟨C2,by simpa [ownsL,backL] using t1.comp' t2,by simp [backL,l2],fun j c hj=>?_⟩
  cases j with
  |zero =>
   simp only [backL,List.getElem?_cons_zero,Option.some.injEq] at hj
   subst hj
   exact r1.mono t2.le
  |succ j=>simpa using r2 j c (by simpa [backL] using hj)
theorem Inv.rebox (h:Inv E n C st a) {r:Nat} {cs cs':List V} {L:Loc} (hh:C.heap r=.box cs) (hl:C.loc r=some L) (hlen:cs'.length=cs.length)
  (hc:∀ cur e,C.w.heap[L.blk]?=some (.cells cur e (0,0))->CellsR C cs' (fun j=>cur[L.base+j]?)) :
  Inv E n { C with heap:=upd C.heap r (.box cs') } (st.set r (.box cs')) a/\Le C { C with heap:=upd C.heap r (.box cs') }:=by
 have hle:Le C { C with heap:=upd C.heap r (.box cs') }:=by
  refine ⟨fun b off hf=>⟨hf,rfl⟩,fun _ h=>h,fun r' c1 _ h'=>⟨?_,rfl⟩,fun r' s rs _ h'=>⟨?_,rfl⟩,fun r' ks vs _ h'=>⟨?_,rfl⟩⟩
  ·by_cases e:r'=r
   ·subst e; exact ⟨cs',by simp [upd]⟩
   ·exact ⟨c1,by simp [upd,e,h']⟩
  ·by_cases e:r'=r
   ·subst e; rw [hh] at h'; cases h'
   ·exact ⟨rs,by simp [upd,e,h'],rfl⟩
  ·by_cases e:r'=r
   ·subst e; rw [hh] at h'; cases h'
   ·exact ⟨ks,vs,by simp [upd,e,h']⟩
 have hdead:∀ q,(upd C.heap r (.box cs') q).isDead=false->(C.heap q).isDead=false:=fun q hq=>by
  by_cases e:q=r
  ·subst e; rw [hh]; rfl
  ·simpa [upd,e] using hq
 refine ⟨{
   heap:=by simp [St.set,h.heap],env:=fun t=>(h.env t).mono hle
   objs:=fun q=>?_
   inj:=fun r1 r2 L1 L2 h1 h2 d1 d2 hb=>h.inj r1 r2 L1 L2 h1 h2 (hdead r1 d1) (hdead r2 d2) hb
   fin:=h.fin,gnew:=h.gnew,gsub:=h.gsub,par:=h.par,fnew:=h.fnew,frame:=h.frame,marks:=h.marks,mnd:=h.mnd,fkeep:=h.fkeep,stay:=h.stay,wsz:=h.wsz,mball:=h.mball,size:=h.size },hle⟩
 by_cases e:q=r
 ·subst e
  have ho:=h.objs q
  unfold ObjOk at ho ⊢
  rw [hh] at ho
  simp only [upd,if_true]
  obtain ⟨L',hl',⟨cur,e,g,g2,g3⟩,g4,g5⟩:=ho
  rw [hl] at hl'; cases hl'
  exact ⟨L,hl,⟨cur,e,fun j=>cur.getD (L.base+j) undef,g2,cells_of (f:=fun j=>L.base+j) ((hc cur e g2).mono hle)⟩,fun j hj=>g4 j (hlen ▸ hj),g5⟩
 ·exact (h.objs q).mono hle ⟨fun _ _ _ _ _=>⟨rfl,rfl,fun _ h=>h⟩⟩ (by simp [upd,e]) rfl fun L' _ _=>⟨rfl,fun _ h=>h,fun h=>h⟩
structure Back (st s:St) (C B:Ctx) (x:X) (k:Nat) (o:V) (u:Value):Prop where
 it:∃ r off L cs1 cs',x.ev st=.ptr r off/\s.heap r=.box cs1/\off+k<=cs1.length/\C.loc r=some L/\u=.pointer (some ⟨L.blk,L.base+off,none⟩)/\o=.io cs'/\cs'.length=k /\
  (oldC st r off k).length=k/\IoR B cs' u/\(backL (oldC st r off k) cs').1.all V.noOwn=true
theorem gone_io {x:X} {k r off:Nat} (hx:x.ev st=.ptr r off):(Pm.io x k).gone st=(oldC st r off k).flatMap objC:=by
 simp only [Pm.gone,hx,oldC]
 cases st.heap r <;> rfl
theorem backs_sound {B:Ctx} (hBh:∀ r,B.heap r=.dead):∀ (ps:List Pm) (outs:List V) (us:List Value) {C:Ctx} {s:St},Inv E n C s a->ps.length=outs.length->outs.length=us.length ->
  (∀ b off,B.F b off->C.F b off)->(∀ b,B.G b->C.G b)->C.w=B.w ->
  (∀ (i:Nat) x k,ps[i]?=some (.io x k)->∃ o,outs[i]?=some o/\Back st s C B x k o (us.getD i undef)) ->
  (ps.flatMap (·.gone st)).Nodup->(∀ r∈ps.flatMap (·.gone st),(s.heap r).isDead=true)->(ps.flatMap (·.box st)).Nodup ->
  (∀ b∈listA (ownsA B.w) outs us,Free E C b)->(listA (ownsA B.w) outs us).Nodup ->
  ∃
   C',Inv E n C' (backs st ps outs s) a/\C'.w=C.w/\Le C C'/\(∀ b,Free E C b->b∉listA (ownsA B.w) outs us->Free E C' b) /\
   ∀ r,(s.heap r).isDead=true->r∉ps.flatMap (·.gone st)->((backs st ps outs s).heap r).isDead=true
 |[],[],[],C,s,h,_,_,_,_,_,_,_,_,_,_,_=>⟨C,h,rfl,h.le_grow (Ext.refl _) (fun _ _ h=>h),fun _ hb _=>hb,fun _ hr _=>hr⟩
 |[],_::_,_,_,_,_,hl,_,_,_,_,_,_,_,_,_,_=>by simp at hl
 |_::_,[],_,_,_,_,hl,_,_,_,_,_,_,_,_,_,_=>by simp at hl
 |_,[],_::_,_,_,_,_,hl,_,_,_,_,_,_,_,_,_=>by simp at hl
 |_,_::_,[],_,_,_,_,hl,_,_,_,_,_,_,_,_,_=>by simp at hl
 |p :: ps,o::os,u::us,C,s,h,hl1,hl2,hF,hG,hw,hb,hgn,hgd,hbn,hfree,hnd=>by
  have hl1':ps.length=os.length:=by simpa using hl1
  have hl2':os.length=us.length:=by simpa using hl2
  simp only [List.flatMap_cons,List.nodup_append] at hgn hbn
  obtain ⟨hgn1,hgn2,hgj⟩:=hgn
  obtain ⟨hbn1,hbn2,hbj⟩:=hbn
  simp only [listA,List.nodup_append] at hnd
  obtain ⟨hnd1,hnd2,hndj⟩:=hnd
  have skip:(∀ x k,p≠.io x k)->∃ C',Inv E n C' (backs st ps os s) a/\C'.w=C.w/\Le C C'/\(∀ b,Free E C b->b∉listA (ownsA B.w) (o::os) (u::us)->Free E C' b) /\
   ∀ r,(s.heap r).isDead=true->r∉(p::ps).flatMap (·.gone st)->((backs st ps os s).heap r).isDead=true:=fun _=>by
   obtain ⟨C',q1,q2,q3,q4,q5⟩:=backs_sound hBh ps os us h hl1' hl2' hF hG hw (fun i x k hi=>by simpa using hb (i+1) x k (by simpa using hi)) hgn2
    (fun r hr=>hgd r (by simp only [List.flatMap_cons,List.mem_append]; exact .inr hr)) hbn2 (fun b hb=>hfree b (by simp only [listA,List.mem_append]; exact .inr hb)) hnd2
   refine ⟨C',q1,q2,q3,fun b hb hn=>q4 b hb fun hm=>hn (by simp only [listA,List.mem_append]; exact .inr hm),fun r hr hn=>q5 r hr fun hm=>hn (by simp only [List.flatMap_cons,List.mem_append]; exact .inr hm)⟩
  cases p with
  |ro x=>exact skip (fun _ _ e=>by cases e)
  |mv x k=>exact skip (fun _ _ e=>by cases e)
  |io x k =>
   obtain ⟨o',ho',⟨r,off,L,cs1,cs',b1,b2,b3,b4,b5,b6,b7,b8,b9,b10⟩⟩:=hb 0 x k rfl
   simp only [List.getElem?_cons_zero,Option.some.injEq] at ho'
   simp only [List.getD_cons_zero] at b5 b9
   subst ho' b6 b5
   have eg:=gone_io (st:=st) (x:=x) (k:=k) b1
   have eb:(Pm.io x k).box st=[r]:=by simp [Pm.box,b1]
   simp only [List.flatMap_cons] at hgd
   rw [eg] at hgn1 hgj hgd
   rw [eb] at hbj
   -- the memory
   obtain ⟨blk,base,cur,e,g,c1,c2,c3⟩:=b9
   cases c1
   have c2':C.w.heap[L.blk]?=some (.cells cur e (0,0)):=by rw [hw]; exact c2
   have eo:ownsA B.w (.io cs') (.pointer (some ⟨L.blk,L.base+off,none⟩))=ownsL cs' (cellsAt B.w L.blk (L.base+off) cs'.length):=rfl
   rw [eo] at hnd1 hndj
   have us_get:∀ j,j < k->(cellsAt B.w L.blk (L.base+off) cs'.length).getD j undef=cur.getD (L.base+off+j) undef:=fun j hj=>by
    rw [cellsAt_get _ _ _ _ _ (b7 ▸ hj),cell_of_row _ _ _ _ _ _ c2,Array.getD_eq_getD_getElem?]
   have hle0:Le B C:=⟨fun b off hf=>⟨hF b off hf,by rw [hw]⟩,hG,fun r cs _ hr=>by (rw [hBh] at hr; cases hr),fun r s rs _ hr=>by (rw [hBh] at hr; cases hr),fun r ks vs _ hr=>by (rw [hBh] at hr; cases hr)⟩
   obtain ⟨C1,t1,l1,r1⟩:=backL_sound (oldC st r off k) cs' (cellsAt B.w L.blk (L.base+off) cs'.length) h (by rw [b8,b7]) (by rw [cellsAt_len])
    (fun j c hj=>by
     have hjk:j < k:=by rw [<- b7]; exact (List.getElem?_eq_some_iff.1 hj).1
     obtain ⟨a1,a2,a3⟩:=c3 j c hj
     rw [us_get j hjk,Array.getD_eq_getD_getElem?,a1]
     exact RB1_mono hle0 hw a3)
    (fun b hb=>hfree b (by simp only [listA,List.mem_append]; exact .inl (by rw [eo]; exact hb))) hnd1 hgn1 (fun q hq=>hgd q (by simp only [List.mem_append]; exact .inl hq)) b10
   rw [cellsAt_len,b7] at l1
   have hrn:r∉(oldC st r off k).flatMap objC:=fun hm=>by
    have:=hgd r (by simp only [List.mem_append]; exact .inl hm)
    rw [b2] at this; simp [AO.isDead] at this
   have hh1:(s.sets (backL (oldC st r off k) cs').2).heap r=.box cs1:=by rw [t1.other r hrn]; exact b2
   have hC1:C1.heap r=.box cs1:=by rw [t1.inv.heap]; exact hh1
   have hCr:C.heap r=.box cs1:=by rw [h.heap]; exact b2
   have hloc1:C1.loc r=some L:=(t1.le.box r cs1 rfl hCr).2.trans b4
   obtain ⟨s1,s2⟩:=setR_spec (cs:=cs1) (vs:=(backL (oldC st r off k) cs').1) (off:=off) (by rw [l1]; exact b3)
   obtain ⟨i2,le2⟩:=t1.inv.rebox (cs':=setR cs1 off (backL (oldC st r off k) cs').1) hC1 hloc1 s1 (fun cur2 e2 hcur2=>by
    rw [t1.w,c2'] at hcur2; cases hcur2
    intro j c hj
    rw [s2,l1] at hj
    by_cases hjr:off<=j/\j < off+k
    ·rw [if_pos hjr] at hj
     have hjk:j - off < k:=by omega
     have hR:=r1 _ c hj
     rw [us_get _ hjk] at hR
     have e3:L.base+off+(j - off)=L.base+j:=by omega
     obtain ⟨c',hc'⟩ : ∃ c',cs'[j - off]?=some c':=⟨cs'[j - off]'(by omega),by simp⟩
     obtain ⟨a1,a2,_⟩:=c3 _ c' hc'
     rw [e3] at a1 hR
     rw [Array.getD_eq_getD_getElem?,a1] at hR
     exact ⟨_,a1,a2,hR⟩
    ·rw [if_neg hjr] at hj
     have ho:=t1.inv.objs r
     unfold ObjOk at ho
     rw [hC1] at ho
     obtain ⟨L',hl',⟨cur3,e3,g3,g4,g5⟩,_⟩:=ho
     rw [hloc1] at hl'; cases hl'
     rw [t1.w,c2'] at g4; cases g4
     obtain ⟨a1,a2,a3⟩:=g5 j c hj
     exact ⟨_,a1,a2,a3⟩)
   have ebk:backs st (.io x k::ps) (.io cs'::os) s=backs st ps os ((s.sets (backL (oldC st r off k) cs').2).set r (.box (setR cs1 off (backL (oldC st r off k) cs').1))):=by
    simp [backs,b1,b2]
   rw [ebk]
   have lle:Le C { C1 with heap:=upd C1.heap r (.box (setR cs1 off (backL (oldC st r off k) cs').1)) }:=t1.le.trans le2
   have hfree2:∀ b,Free E C b->b∉ownsL cs' (cellsAt B.w L.blk (L.base+off) cs'.length)->Free E { C1 with heap:=upd C1.heap r (.box (setR cs1 off (backL (oldC st r off k) cs').1)) } b:=fun b hb hn =>
    (t1.free b hb hn).mono (fun _ h=>h) (fun h=>h) fun q L' q1 q2 _=>⟨q1,by
     by_cases e:q=r
     ·subst e; rw [hC1]; rfl
     ·simpa [upd,e] using q2⟩
   -- heap of other names
   have hsame:∀ q,q∉(oldC st r off k).flatMap objC->q≠r->((s.sets (backL (oldC st r off k) cs').2).set r (.box (setR cs1 off (backL (oldC st r off k) cs').1))).heap q=s.heap q:=fun q h1 h2=>by
    simp only [St.set,upd,h2,if_false]; exact t1.other q h1
   obtain ⟨C',q1,q2,q3,q4,q5⟩:=backs_sound hBh ps os us i2 hl1' hl2' (fun b off hf=>(lle.F b off (hF b off hf)).1) (fun b hg=>lle.G b (hG b hg)) (t1.w.trans hw)
    (fun i x' k' hi=>by
     obtain ⟨o2,ho2,⟨r2,off2,L2,cs2,cs2',d1,d2,d3,d4,d5,d6,d7,d8,d9,d10⟩⟩:=hb (i+1) x' k' (by simpa using hi)
     have hne:r2≠r:=fun e=>by
      subst e
      refine hbj r2 (by simp) r2 ?_ rfl
      rw [List.mem_flatMap]
      exact ⟨_,List.mem_of_getElem? hi,by simp [Pm.box,d1]⟩
     have hn2:r2∉(oldC st r off k).flatMap objC:=fun hm=>by
      have:=hgd r2 (by simp only [List.mem_append]; exact .inl hm)
      rw [d2] at this; simp [AO.isDead] at this
     refine ⟨o2,by simpa using ho2,⟨r2,off2,L2,cs2,cs2',d1,(hsame r2 hn2 hne).trans d2,d3,?_,by simpa using d5,d6,d7,d8,by simpa using d9,d10⟩⟩
     have:=(lle.box r2 cs2 rfl (by rw [h.heap]; exact d2)).2
     exact this.trans d4)
    hgn2 (fun q hq=>by
     rw [hsame q (fun hm=>hgj q hm q hq rfl) (fun e=>by
      subst e
      have:=hgd q (by simp only [List.mem_append]; exact .inr hq)
      rw [b2] at this; simp [AO.isDead] at this)]
     exact hgd q (by simp only [List.mem_append]; exact .inr hq)) hbn2
    (fun b hb=>hfree2 b (hfree b (by simp only [listA,List.mem_append]; exact .inr hb)) fun hm=>hndj b hm b hb rfl) hnd2
   refine ⟨C',q1,q2.trans t1.w,lle.trans q3,fun b hb hn=>?_,fun q hq hn=>?_⟩
   ·simp only [listA,List.mem_append,not_or] at hn
    exact q4 b (hfree2 b hb (by rw [<- eo]; exact hn.1)) hn.2
   ·simp only [List.flatMap_cons,List.mem_append,not_or] at hn
    rw [eg] at hn
    refine q5 q ?_ hn.2
    rw [hsame q hn.1 (fun e=>by subst e; rw [b2] at hq; simp [AO.isDead] at hq)]
    exact hq
end Go.Ab

namespace Go.Ab
open Go
variable {E:Ent} {n:Sz} {C:Ctx} {st:St} {a:Act} {P:Program}
theorem RB_mono {C':Ctx} (hc:Le C C') (hw:C'.w=C.w) {c:V} {u:Value} (h:RB C c u):RB C' c u:=by
 by_cases hcc:∃ vs,c=.tup vs
 ·obtain ⟨vs,rfl⟩:=hcc
  obtain ⟨us,rfl,h2,h4⟩:=h
  exact ⟨us,rfl,h2,fun j c hj=>RB2_mono hc hw (h4 j c hj)⟩
 ·have hne:∀ vs,c≠.tup vs:=fun vs e=>hcc ⟨vs,e⟩
  have e1:∀ C:Ctx,RB C c u=RB2 C c u:=fun C=>by unfold RB; split <;> first|exact absurd rfl (hne _)|rfl
  rw [e1] at h ⊢
  exact RB2_mono hc hw h
theorem IoR_mono {C':Ctx} (hc:Le C C') (hw:C'.w=C.w) {cs:List V} {u:Value} (h:IoR C cs u):IoR C' cs u:=by
 obtain ⟨b,base,cur,e,g,h1,h2,h3⟩:=h
 exact ⟨b,base,cur,e,g,h1,by rw [hw]; exact h2,fun j c hj=>⟨(h3 j c hj).1,(h3 j c hj).2.1,RB1_mono hc hw (h3 j c hj).2.2⟩⟩
theorem Le_bare {w:World} {F:Nat->Nat->Prop} {G:Nat->Prop} {C':Ctx} (hF:∀ b off,F b off->C'.F b off) (hG:∀ b,G b->C'.G b) (hw:C'.w=w):Le (bare w F G) C' :=
 ⟨fun b off hf=>⟨hF b off hf,by rw [hw]; rfl⟩,hG,fun r cs _ hr=>(by cases hr),fun r s rs _ hr=>(by cases hr),fun r ks vs _ hr=>(by cases hr)⟩
theorem frz_plain (h:Inv E n C st a):∀ (k:Nat) (v:V) (u:Value),R C v u->v.closed=true->R (bare C.w C.F C.G) (frz st k v) u
 |0,v,u,hR,hc=>by
  have e:frz st 0 v=v:=by unfold frz; cases v <;> rfl
  rw [e]
  exact R.of_closed (C:=C) (C':=bare C.w C.F C.G) (fun _ _ hf=>⟨hf,rfl⟩) (fun _ h=>h) hR hc
 |k + 1,v,u,hR,hc=>by
  have ih:=frz_plain h k
  have other:frz st (k+1) v=v->R (bare C.w C.F C.G) (frz st (k+1) v) u:=fun e=>by
   rw [e]; exact R.of_closed (C:=C) (C':=bare C.w C.F C.G) (fun _ _ hf=>⟨hf,rfl⟩) (fun _ h=>h) hR hc
  cases hR with
  |undef|bool|int|str|nilp|nilf|slNil|slZ|sl|cp=>exact other rfl
  |ptr|rptr|sref|srefNil|srefZ|mp=>simp [V.closed] at hc
  |nils s=>simp only [frz]; exact .slNil false s
  |nilsSome s b off =>
   simp only [frz]
   exact .sl false s [] b off 0 (fun _ _=>undef) (by simp) (by simp [maxLen]) (by simp) (by simp) (fun i j c hij=>by simp [at2] at hij) (fun i j c hij=>by simp [at2] at hij) (fun i j c hij=>by simp [at2] at hij)
  |agg cs us hl h1 hr =>
   simp only [V.closed] at hc
   obtain ⟨l,r⟩:=mapR (C:=bare C.w C.F C.G) (f:=frz st k) hl (fun j c hj=>ih c _ (hr j c hj) (closedL_all hc j _ hj))
   exact .agg _ us l h1 r
  |tup cs us hl hr =>
   simp only [V.closed] at hc
   obtain ⟨l,r⟩:=mapR (C:=bare C.w C.F C.G) (f:=frz st k) hl (fun j c hj=>ih c _ (hr j c hj) (closedL_all hc j _ hj))
   exact .tup _ us l r
  |fn f first caps us ws hl hl' hr hr' =>
   simp only [V.closed,Bool.and_eq_true] at hc
   obtain ⟨l,r⟩:=mapR (C:=bare C.w C.F C.G) (f:=frz st k) hl (fun j c hj=>ih c _ (hr j c hj) (closedL_all hc.1 j _ hj))
   obtain ⟨l',r'⟩:=mapR (C:=bare C.w C.F C.G) (f:=frz st k) hl' (fun j c hj=>ih c _ (hr' j c hj) (closedL_all hc.2 j _ hj))
   exact .fn f _ _ us ws l l' r r'
theorem outsOk_get:∀ {ps:List Pm} {os:List V},outsOk st ps os=true->∀ (i:Nat) (x:X) (k:Nat) (o:V),ps[i]?=some (.io x k)->os[i]?=some o ->
  ∃ r off cs',x.ev st=.ptr r off/\o=.io cs'/\cs'.length=k/\(backL (oldC st r off k) cs').1.all V.noOwn=true
 |[],_,_,i,x,k,o,hi,_=>by simp at hi
 |_::_,[],_,i,x,k,o,_,hi=>by simp at hi
 |p :: ps,q::os,h,i,x,k,o,hi,ho=>by
  have hrest:outsOk st ps os=true:=by
   cases p <;> simp only [outsOk,Bool.and_eq_true] at h <;> first|exact h.2|exact h
  cases i with
  |zero =>
   simp only [List.getElem?_cons_zero,Option.some.injEq] at hi ho
   subst hi ho
   simp only [outsOk,Bool.and_eq_true] at h
   cases hx:x.ev st with
   |ptr r off =>
    cases q with
    |io cs' =>
     simp only [hx,Bool.and_eq_true,beq_iff_eq] at h
     exact ⟨r,off,cs',rfl,rfl,h.1.1,h.1.2⟩
    |_=>simp [hx] at h
   |_=>simp [hx] at h
  |succ i=>exact outsOk_get hrest i x k o (by simpa using hi) (by simpa using ho)
theorem names_nodup (h:Inv E n C st a) {l:List Nat} (hl:l.Nodup) (hlive:∀ r∈l,(st.heap r).isDead=false):(l.filterMap (blkOf C)).Nodup:=by
 unfold List.Nodup at hl ⊢
 rw [List.pairwise_filterMap]
 refine List.Pairwise.imp_of_mem ?_ hl
 intro r r' hr hr' hne b hb b' hb' e
 subst e
 simp only [blkOf,Option.map_eq_some_iff] at hb hb'
 obtain ⟨L,h1,h2⟩:=hb
 obtain ⟨L',h3,h4⟩:=hb'
 exact hne (h.inj r r' L L' h1 h3 (by rw [h.heap]; exact hlive r hr) (by rw [h.heap]; exact hlive r' hr') (h2.trans h4.symm))
theorem call_core (h:Inv E n C st a) {f:FuncId} {args:List Pm} {us:List Value} {objs:List Nat} {res:V} {outs:List V} {fr:Bool} {Φ:Nat->Nat->Prop} {C1:Ctx}
  (hargl:args.length=us.length) (hargs:∀ (i:Nat) (p:Pm),args[i]?=some p->R C (p.x.ev st) (us.getD i undef)) (hnd:(args.flatMap (·.gone st) ++ args.flatMap (·.box st)).Nodup) (hobn:objs.Nodup) (hobd:objs.all (fun r=>(st.heap r).isDead)=true) (hmb:objs≠[]->∀ b,E.Mb b)
  (hok:args.all (·.ok (st.kills (args.flatMap (·.gone st) ++ args.flatMap (·.box st))) st)=true)
  (hcall:CallsV P f (args.map (·.val (st.kills (args.flatMap (·.gone st) ++ args.flatMap (·.box st))) st)) res outs fr)
  (hout:outsOk st args outs=true)
  (hi1:Inv E n C1 (st.kills (args.flatMap (·.gone st) ++ args.flatMap (·.box st))) a) (hF1:C1.F=C.F) (hl1:C1.loc=C.loc)
  (ha:∀ b off,C.F b off->Φ b off)
  (hb:∀ (i:Nat) x,args[i]?=some (Pm.ro x)->((frz (st.kills (args.flatMap (·.gone st) ++ args.flatMap (·.box st))) 4 (x.ev (st.kills (args.flatMap (·.gone st) ++ args.flatMap (·.box st))))).sh).closed=true ->
   R (bare C.w Φ C.G) ((frz (st.kills (args.flatMap (·.gone st) ++ args.flatMap (·.box st))) 4 (x.ev (st.kills (args.flatMap (·.gone st) ++ args.flatMap (·.box st))))).sh) (us.getD i undef))
  (he:fr=false->∀ b off,Φ b off->C.F b off) (hf:(∃ x k,Pm.io x k∈args)->∀ b off,Φ b off->C.F b off) (hg:∀ b off,Φ b off->Lent C1 b off) :
  Calls P f us.toArray C.w fun e w'=>∃ v C',e=.returned v/\C'.w=w' /\
   Inv E n C' ((backs st args outs (blanks st args (st.kills (args.flatMap (·.gone st))))).sets (thaw res objs).2.2) a/\R C' (thaw res objs).1 v:=by
 have hand:=h.handL ha hargl hargs hok hb
 generalize hvals:args.map (·.val (st.kills (args.flatMap (·.gone st) ++ args.flatMap (·.box st))) st)=vals at hcall hand
 obtain ⟨hlen,hlen'⟩:=hand.len
 obtain ⟨hliveG,hliveB⟩:=hand.live
 have hndG:=(List.nodup_append.1 hnd).1
 have hndB:=(List.nodup_append.1 hnd).2.1
 have hdjGB:=(List.nodup_append.1 hnd).2.2
 -- the blocks
 have blkG:∀ b∈listA (ownsA C.w) vals us,∃ r∈args.flatMap (·.gone st),∃ L s rs,C.loc r=some L/\L.blk=b/\C.heap r=.rows s rs/\RowsOk E C L s rs:=fun b hb=>by
  obtain ⟨r,hr,h2⟩:=List.mem_filterMap.1 (hand.owns.subset hb)
  simp only [blkOf,Option.map_eq_some_iff] at h2
  obtain ⟨L,h3,h4⟩:=h2
  obtain ⟨s,rs,h5⟩:=hliveG r hr
  have h6:C.heap r=.rows s rs:=by rw [h.heap]; exact h5
  have ho:=h.objs r
  unfold ObjOk at ho
  rw [h6] at ho
  rcases ho with ⟨_,ho⟩|⟨L',h7,h8⟩
  ·rw [h3] at ho; cases ho
  ·rw [h3] at h7; cases h7
   exact ⟨r,hr,L,s,rs,h3,h4,h6,h8⟩
 have blkB:∀ r cs,C.heap r=.box cs->∀ L,C.loc r=some L->BoxOk E C L cs:=fun r cs h6 L h3=>by
  have ho:=h.objs r
  unfold ObjOk at ho
  rw [h6] at ho
  obtain ⟨L',h7,h8⟩:=ho
  rw [h3] at h7; cases h7; exact h8
 have ioOf:∀ {b off},anyC vals us b off->∃ x k,Pm.io x k∈args:=fun hc=>by
  obtain ⟨x,k,r,o,L,cs,h1,_⟩:=hand.cells hc
  exact ⟨x,k,h1⟩
 have wrF:∀ b off,writable C.w vals us b off->¬ C.F b off/\(E.w0.heap.size<=b\/E.Wr b off):=fun b off hw=>by
  rcases hw with hw|hw
  ·obtain ⟨r,hr,L,s,rs,q1,q2,q3,q4⟩:=blkG b hw
   subst q2
   exact q4.2.2.2.2.2.1 off
  ·obtain ⟨x,k,r,o,L,cs,q1,q2,q3,q4,q5,q6,q7,q8⟩:=hand.cells hw
   subst q6
   have:=(blkB r cs (by rw [h.heap]; exact q3) L q5).2.1 (off - L.base) (by omega)
   rw [show L.base+(off - L.base)=off by omega] at this
   exact this
 have hsz:E.w0.heap.size<=C.w.heap.size:=h.frame.size
 -- the call
 refine Calls.mono (hcall C.w Φ C.G us hlen hand.get ?_ ?_ ?_ ?_ ?_) ?_
 ·refine List.Sublist.nodup (hand.owns.append hand.box) ?_
  rw [<- List.filterMap_append]
  refine names_nodup h hnd fun r hr=>?_
  rcases List.mem_append.1 hr with hr|hr
  ·obtain ⟨s,rs,e⟩:=hliveG r hr; rw [e]; rfl
  ·obtain ⟨cs,e⟩:=hliveB r hr; rw [e]; rfl
 ·intro b hb
  obtain ⟨r,hr,L,s,rs,q1,q2,q3,q4⟩:=blkG b hb
  subst q2
  exact q4.2.2.2.2.2.2
 ·intro b hb
  obtain ⟨r,hr,h2⟩:=List.mem_filterMap.1 (hand.box.subset hb)
  simp only [blkOf,Option.map_eq_some_iff] at h2
  obtain ⟨L,h3,h4⟩:=h2
  obtain ⟨cs,h5⟩:=hliveB r hr
  subst h4
  have hio:∃ x k,Pm.io x k∈args:=by
   obtain ⟨p,hp,hr⟩:=List.mem_flatMap.1 hr
   cases p with
   |io x k=>exact ⟨x,k,hp⟩
   |ro x=>simp [Pm.box] at hr
   |mv x k=>simp [Pm.box] at hr
  exact (blkB r cs (by rw [h.heap]; exact h5) L h3).2.2.imp (fun q off hφ=>q off (hf hio _ _ hφ)) id
 ·intro b hb; exact h.gnew b (Nat.le_trans hsz hb)
 ·intro b off hφ
  rcases hg b off hφ with hF|⟨r,L,q1,q2,q3⟩
  ·rw [hF1] at hF
   exact ⟨h.fin b off hF,fun hw=>(wrF b off hw).1 hF⟩
  ·rw [hl1] at q1
   rw [hi1.heap] at q2
   obtain ⟨q4,q5⟩:=kills_live q2
   have q5':(C.heap r).isDead=false:=by rw [h.heap]; exact q5
   subst q3
   refine ⟨(h.objs r).lt q1 q5',fun hw=>?_⟩
   rcases hw with hw|hw
   ·obtain ⟨r',hr',L',s,rs,p1,p2,p3,p4⟩:=blkG _ hw
    have:=h.inj r r' L L' q1 p1 q5' (by rw [p3]; rfl) p2.symm
    subst this
    exact q4 (List.mem_append_left _ hr')
   ·exact (wrF L.blk off (.inr hw)).1 (hf (ioOf hw) _ _ hφ)
 -- behind the call
 rintro e w' ⟨v,Fr,rfl,post⟩
 obtain ⟨CA,iA,wA,FA,GA,lA⟩:=h.kills (args.flatMap (·.gone st))
 have ioAt:∀ x k,Pm.io x k∈args->∃ r o cs L,x.ev st=.ptr r o/\st.heap r=.box cs/\o+k<=cs.length/\C.loc r=some L/\r∉args.flatMap (·.gone st):=fun x k hm=>by
  obtain ⟨i,hi⟩:=List.getElem?_of_mem hm
  obtain ⟨r,o,L,cs,q1,q2,q3,q4,_⟩:=hand.io i x k hi
  refine ⟨r,o,cs,L,q1,q2,q3,q4,fun hr=>?_⟩
  obtain ⟨s,rs,q5⟩:=hliveG r hr
  rw [q2] at q5; cases q5
 obtain ⟨bl1,bl2,bl3⟩:=blanks_spec (st:=st) args (st.kills (args.flatMap (·.gone st))) fun x k hm=>by
  obtain ⟨r,o,cs,L,q1,q2,q3,q4,q5⟩:=ioAt x k hm
  obtain ⟨cs',q6,q7⟩:=kills_box q5 q2
  exact ⟨r,o,cs',q1,q6,by omega⟩
 obtain ⟨iB,leB⟩:=iA.weak bl1 bl2
 -- what lives there
 have liveB:∀ q,((blanks st args (st.kills (args.flatMap (·.gone st)))).heap q).isDead=false->q∉args.flatMap (·.gone st)/\(C.heap q).isDead=false:=fun q hq=>by
  rw [(bl2 q).dead] at hq
  obtain ⟨q1,q2⟩:=kills_live hq
  exact ⟨q1,by rw [h.heap]; exact q2⟩
 have apart:∀ q L,C.loc q=some L->((blanks st args (st.kills (args.flatMap (·.gone st)))).heap q).isDead=false->L.blk∉listA (ownsA C.w) vals us:=fun q L hq hl hm=>by
  obtain ⟨q1,q2⟩:=liveB q hl
  obtain ⟨r',hr',L',s,rs,p1,p2,p3,p4⟩:=blkG _ hm
  have:=h.inj q r' L L' hq p1 q2 (by rw [p3]; rfl) p2.symm
  subst this
  exact q1 hr'
 obtain ⟨iC, leC⟩:=iB.world (w':=w') (W:=writable C.w vals us) (F':=fun b off=>C.F b off\/Fr b off) (by rw [show ({CA with heap:=(blanks st args (st.kills (args.flatMap (·.gone st)))).heap}:Ctx).w=C.w from wA]; exact post.frame)
  (fun b off hw hF=>(wrF b off hw).1 (by rw [<- FA]; exact hF)) (fun b off hw=>(wrF b off hw).2) (fun b off hF=>.inl (by rw [<- FA]; exact hF))
  (fun b off hF=>by
   rcases hF with hF|hF
   ·exact .inl (by rw [FA]; exact hF)
   ·obtain ⟨p1,p2⟩:=post.fresh b off hF
    refine .inr ⟨p1,?_,fun r L hl hd hbb=>?_,fun o ho=>?_⟩
    ·show CA.G b
     rw [GA]
     rcases p2 with p2|p2
     ·exact h.gnew b (Nat.le_trans hsz p2)
     ·obtain ⟨r',hr',L',s,rs,q1,q2,q3,q4⟩:=blkG _ p2
      subst q2
      exact q4.2.2.2.2.2.2
    rw [show ({CA with heap:=(blanks st args (st.kills (args.flatMap (·.gone st)))).heap}:Ctx).loc=C.loc from lA] at hl
    subst hbb
    rcases p2 with p2|p2
    ·exact absurd ((h.objs r).lt hl (liveB r hd).2) (Nat.not_lt.2 p2)
    ·exact apart r L hl hd p2
    have ho:C.F b o:=by rw [<- FA]; exact ho
    rcases p2 with p2|p2
    ·exact absurd (h.fin b o ho) (Nat.not_lt.2 p2)
    ·exact (wrF b o (.inl p2)).1 ho)
  (fun b off hw hF hG=>by
   have hF:C.F b 0:=by rw [<- FA]; exact hF
   have hG:C.G b:=by rw [<- GA]; exact hG
   rcases hw with hw|hw
   ·exact (wrF b 0 (.inl hw)).1 hF
   ·obtain ⟨x,k,r,o,L,cs,q1,q2,q3,q4,q5,q6,q7,q8⟩:=hand.cells hw
    exact (h.objs r).apart q5 (by rw [h.heap,q3]; rfl) hF hG q6)
  (fun r ks vs L off hr hl hw=>by
   have hl:C.loc r=some L:=by rw [<- lA]; exact hl
   have hr':(blanks st args (st.kills (args.flatMap (·.gone st)))).heap r=.mp ks vs:=hr
   have hd:((blanks st args (st.kills (args.flatMap (·.gone st)))).heap r).isDead=false:=by rw [hr']; rfl
   rcases hw with hw|hw
   ·exact absurd hw (apart r L hl hd)
   ·obtain ⟨x,k,r',o,L',cs',q1,q2,q3,q4,q5,q6,q7,q8⟩:=hand.cells hw
    have:=h.inj r r' L L' hl q5 (liveB r hd).2 (by rw [h.heap,q3]; rfl) q6
    subst this
    obtain ⟨cs2,q9,_⟩:=kills_box (liveB r hd).1 q3
    rcases bl2 r with e|⟨c1,c2,e1,e2,_⟩
    ·rw [hr',q9] at e; cases e
    ·rw [hr'] at e2; cases e2)
  (fun r cs L j c hr hl hj hw=>by
   have hl:C.loc r=some L:=by rw [<- lA]; exact hl
   have hd:((blanks st args (st.kills (args.flatMap (·.gone st)))).heap r).isDead=false:=by
    have:(blanks st args (st.kills (args.flatMap (·.gone st)))).heap r=.box cs:=hr
    rw [this]; rfl
   rcases hw with hw|hw
   ·exact absurd hw (apart r L hl hd)
   ·refine ⟨?_, ?_⟩
    ·obtain ⟨x,k,r',o,L',cs',q1,q2,q3,q4,q5,q6,q7,q8⟩:=hand.cells hw
     have:=h.inj r r' L L' hl q5 (liveB r hd).2 (by rw [h.heap,q3]; rfl) q6
     subst this
     rw [hl] at q5; cases q5
     exact bl3 x k r o cs j c q1 q2 hr (by omega) (by omega) hj
    ·have hw':=(post.ranges _ _).2 hw
     have : ∀ (os:List V) (us:List Value),(∀ (i:Nat) (o:V),os[i]?=some o->RA (bare w' (fun b off=>Φ b off\/Fr b off) C.G) o (us.getD i undef))->anyC os us L.blk (L.base+j)->∃ u,w'.cell? ⟨L.blk,L.base+j,none⟩=some u/\u.oneCell'=true:=by
      intro os
      induction os with
      |nil=>intro us _ hc; exact absurd hc (by cases us <;> simp [anyC])
      |cons o os ih =>
       intro us hr hc
       cases us with
       |nil=>exact absurd hc (by simp [anyC])
       |cons u us =>
        simp only [anyC] at hc
        rcases hc with hc|hc
        ·have hra:=hr 0 o rfl
         simp only [List.getD_cons_zero] at hra
         cases o with
         |io cs2 =>
          obtain ⟨b,base,cur,e,g,p1,p2,p3⟩:=hra
          subst p1
          simp only [boxC] at hc
          obtain ⟨e1,e2,e3⟩:=hc
          obtain ⟨c',hc'⟩ : ∃ c',cs2[L.base+j - base]?=some c':=⟨cs2[L.base+j - base]'(by omega),by simp⟩
          obtain ⟨a1,a2,_⟩:=p3 _ c' hc'
          rw [show base+(L.base+j - base)=L.base+j by omega] at a1
          have p2':w'.heap[L.blk]?=some (.cells cur e (0,0)):=by rw [e1]; exact p2
          exact ⟨_,by rw [cell_of_row _ _ _ _ _ _ p2']; exact a1,a2⟩
         |_=>exact absurd hc (by simp [boxC])
        ·exact ih us (fun i o' hi=>by simpa using hr (i+1) o' (by simpa using hi)) hc
     exact this outs us post.routs hw')
  (fun r s rs L off hr hl hw=>by
   have hl:C.loc r=some L:=by rw [<- lA]; exact hl
   have hr':(blanks st args (st.kills (args.flatMap (·.gone st)))).heap r=.rows s rs:=hr
   have hd:((blanks st args (st.kills (args.flatMap (·.gone st)))).heap r).isDead=false:=by rw [hr']; rfl
   rcases hw with hw|hw
   ·exact absurd hw (apart r L hl hd)
   ·obtain ⟨x,k,r',o,L',cs',q1,q2,q3,q4,q5,q6,q7,q8⟩:=hand.cells hw
    have:=h.inj r r' L L' hl q5 (liveB r hd).2 (by rw [h.heap,q3]; rfl) q6
    subst this
    obtain ⟨cs2,q9,_⟩:=kills_box (liveB r hd).1 q3
    rcases bl2 r with e|⟨c1,c2,e1,e2,_⟩
    ·rw [hr',q9] at e; cases e
    ·rw [hr'] at e2; cases e2)
 have lC:({CA with heap:=(blanks st args (st.kills (args.flatMap (·.gone st)))).heap,w:=w',F:=fun b off=>C.F b off\/Fr b off}:Ctx).loc=C.loc:=lA
 -- free blocks
 have free:∀ b∈ownsR res v ++ listA (ownsA w') outs us,Free E {CA with heap:=(blanks st args (st.kills (args.flatMap (·.gone st)))).heap,w:=w',F:=fun b off=>C.F b off\/Fr b off} b:=fun b hb=>by
  obtain ⟨p1,p2⟩:=post.own b hb
  rcases p1 with p1|p1
  ·refine ⟨fun off hF=>?_,?_,fun off=>.inl (Nat.le_trans hsz p1),fun r L hl hd hbb=>?_⟩
   ·rcases hF with hF|hF
    ·exact absurd (h.fin b off hF) (Nat.not_lt.2 p1)
    ·exact p2 off hF
   ·show CA.G b
    rw [GA]; exact h.gnew b (Nat.le_trans hsz p1)
   ·have hl:C.loc r=some L:=by rw [<- lA]; exact hl
    subst hbb
    exact absurd ((h.objs r).lt hl (liveB r hd).2) (Nat.not_lt.2 p1)
  ·obtain ⟨r',hr',L',s,rs,q1,q2,q3,q4⟩:=blkG _ p1
   subst q2
   refine ⟨fun off hF=>?_,?_,fun off=>(q4.2.2.2.2.2.1 off).2,fun r L hl hd hbb=>?_⟩
   ·rcases hF with hF|hF
    ·exact (q4.2.2.2.2.2.1 off).1 hF
    ·exact p2 off hF
   ·show CA.G L'.blk
    rw [GA]; exact q4.2.2.2.2.2.2
   ·have hl:C.loc r=some L:=by rw [<- lA]; exact hl
    exact apart r L hl hd (by rw [hbb]; exact p1)
 obtain ⟨nd1,nd2,ndj⟩:=List.nodup_append.1 post.nodup
 obtain ⟨nd3,_,_⟩:=List.nodup_append.1 nd2
 -- variables come back
 obtain ⟨CD,iD,wD,leD,freeD,deadD⟩:=backs_sound (B:=bare w' (fun b off=>C.F b off\/Fr b off) C.G) (fun _=>rfl) args outs us iC
  (by rw [post.len,<- hlen']) (by rw [post.len,hlen]) (fun _ _ h=>h) (fun b hb=>by show CA.G b; rw [GA]; exact hb) rfl
  (fun i x k hi=>by
   obtain ⟨r,o,L,cs,q1,q2,q3,q4,q5,cv,q6⟩:=hand.io i x k hi
   have hlt:i < outs.length:=by rw [post.len]; exact (List.getElem?_eq_some_iff.1 q6).1
   have ho:outs[i]?=some outs[i]:=by simp
   obtain ⟨r',off',cs',p1,p2,p3,p4⟩:=outsOk_get hout i x k _ hi ho
   rw [q1] at p1; cases p1
   have hm:=List.mem_of_getElem? hi
   have hrn:r∉args.flatMap (·.gone st):=fun hr=>by
    obtain ⟨s,rs,q7⟩:=hliveG r hr
    rw [q2] at q7; cases q7
   obtain ⟨cs2,q9,q10⟩:=kills_box hrn q2
   have hcs3:∃ cs3,(blanks st args (st.kills (args.flatMap (·.gone st)))).heap r=.box cs3/\cs3.length=cs.length:=by
    rcases bl2 r with e|⟨c1,c2,e1,e2,e3,_⟩
    ·exact ⟨cs2,by rw [e]; exact q9,q10⟩
    ·rw [q9] at e1; cases e1
     exact ⟨c2,e2,by rw [e3]; exact q10⟩
   obtain ⟨cs3,r1,r2⟩:=hcs3
   have hio:=post.routs i _ ho
   rw [p2] at hio
   refine ⟨_,ho,⟨r,o,L,cs3,cs',q1,r1,by omega,by show CA.loc r=some L; rw [lA]; exact q4,q5,p2,p3,?_,?_,p4⟩⟩
   ·simp only [oldC,q2]; simp; omega
   ·exact IoR_mono (C:=bare w' (fun b off=>Φ b off\/Fr b off) C.G) (C':=bare w' (fun b off=>C.F b off\/Fr b off) C.G) (Le_bare (fun b off hφ=>hφ.imp (hf ⟨x,k,hm⟩ b off) id) (fun _ h=>h) rfl) rfl hio)
  hndG (fun r hr=>by rw [(bl2 r).dead,kills_mem hr]; rfl) hndB (fun b hb=>free b (List.mem_append_right _ hb)) nd3
 -- the result
 have hwD:CD.w=w':=wD
 have hres:RB CD res v:=RB_mono (C:=bare w' (fun b off=>(fr=false/\Φ b off)\/Fr b off) C.G)
  (Le_bare (fun b off hφ=>(leD.F b off (by
   rcases hφ with ⟨h1,h2⟩|h1
   ·exact .inl (he h1 b off h2)
   ·exact .inr h1)).1) (fun b hb=>leD.G b (by show CA.G b; rw [GA]; exact hb)) hwD) hwD post.rres
 obtain ⟨CE,tE,rE⟩:=thaw_sound iD hres (fun b hb=>freeD b (free b (List.mem_append_left _ hb)) fun hm=>ndj b hb b (List.mem_append_left _ hm) rfl) nd1 hobn
  (fun r hr=>by
   have hd:=List.all_eq_true.1 hobd r hr
   refine deadD r (by rw [(bl2 r).dead]; exact kills_dead hd) fun hm=>?_
   obtain ⟨s,rs,q⟩:=hliveG r hm
   rw [q] at hd; simp [AO.isDead] at hd) hmb
 exact ⟨v,CE,rfl,tE.w.trans hwD,tE.inv,rE⟩
end Go.Ab

namespace Go.Ab
open Go
variable {E:Ent} {n:Sz} {C:Ctx} {st:St} {a:Act} {P:Program}
theorem call_sound (h:Inv E n C st a) {f:FuncId} {args:List Pm} {objs:List Nat} {d:Option Nat} {K:St->Prop} {us:List Value} (hk:call P f args objs d st K) (hmb:objs≠[]->∀ b,E.Mb b) (hl:args.length=us.length)
  (hR:∀ (C1:Ctx) (st1:St),Inv E n C1 st1 a->C1.w=C.w->C1.F=C.F->C1.G=C.G->(st1=st\/∃ l,st1=st.kills l)->∀ (i:Nat) (p:Pm),args[i]?=some p->R C1 (p.x.ev st1) (us.getD i undef)) :
  Calls P f us.toArray C.w fun e w'=>∃ v C' st' av,e=.returned v/\C'.w=w'/\Inv E n C' st' a/\R C' av v/\K (st'.put d av):=by
 obtain ⟨hnd,hobn,hobd,hok,res,outs,fr,hcall,hpl,hout,hK⟩:=hk
 replace hnd:=nodupB_iff hnd
 replace hobn:=nodupB_iff hobn
 obtain ⟨C1,hi1,w1,F1,G1,l1⟩:=h.kills (args.flatMap (·.gone st) ++ args.flatMap (·.box st))
 have hR1:=hR C1 _ hi1 w1 F1 G1 (.inr ⟨_,rfl⟩)
 have fin:∀ {Φ:Nat->Nat->Prop},_->_->_->_->_->_:=@fun Φ ha hb he hf hg=>Calls.mono (call_core (Φ:=Φ) h hl (hR C st h rfl rfl rfl (.inl rfl)) hnd hobn hobd hmb hok hcall hout hi1 F1 l1 ha hb he hf hg)
  (R':=fun e w'=>∃ v C' st' av,e=.returned v/\C'.w=w'/\Inv E n C' st' a/\R C' av v/\K (st'.put d av)) fun e w' ⟨v,C',q1,q2,q3,q4⟩=>⟨v,C',_,_,q1,q2,q3,q4,hK⟩
 rcases hpl with hpl|⟨hfr,hio⟩
 ·refine fin (Φ:=C.F) (fun _ _ h=>h) (fun i x hi hc=>?_) (fun _ _ _ h=>h) (fun _ _ _ h=>h) (fun b off hφ=>.inl (by rw [F1]; exact hφ))
  have hp:=List.all_eq_true.1 hpl _ (List.mem_of_getElem? hi)
  simp only [Pm.plain] at hp
  have:=R_sh (frz_plain hi1 4 _ _ (hR1 i _ hi) hp)
  rw [w1,F1,G1] at this
  exact this
 ·refine fin (Φ:=Lent C1) (fun b off hF=>.inl (by rw [F1]; exact hF)) (fun i x hi hc=>?_) (fun e=>by rw [hfr] at e; cases e) (fun ⟨x,k,hm⟩=>?_) (fun _ _ h=>h)
  ·have hcl:(frz (st.kills (args.flatMap (·.gone st) ++ args.flatMap (·.box st))) 4 (x.ev (st.kills (args.flatMap (·.gone st) ++ args.flatMap (·.box st))))).closed=true:=by
    exact closed_of_sh _ hc
   have:=R_sh (frz_sound hi1 4 _ _ (hR1 i _ hi) hcl)
   rw [w1,G1] at this
   exact this
  ·have:args.any Pm.isIo=true:=List.any_eq_true.2 ⟨_,hm,rfl⟩
   rw [hio] at this; cases this
theorem okPms_get:∀ {args:List Pm} {ys:List Operand},okPms args ys=true->args.length=ys.length/\∀ (i:Nat) (p:Pm),args[i]?=some p->∃ y,ys[i]?=some y/\okX p.x y=true
 |[],[],_=>⟨rfl,fun i p hi=>by simp at hi⟩
 |[],_::_,h=>by simp [okPms] at h
 |_::_,[],h=>by simp [okPms] at h
 |p :: ps,y::ys,h=>by
  simp only [okPms,Bool.and_eq_true] at h
  obtain ⟨h1,h2⟩:=okPms_get h.2
  refine ⟨by simp [h1],fun i q hi=>?_⟩
  cases i with
  |zero =>
   simp only [List.getElem?_cons_zero,Option.some.injEq] at hi
   subst hi
   refine ⟨y,rfl,?_⟩
   have:=h.1
   cases p <;> exact this
  |succ i=>simpa using h2 i q (by simpa using hi)
theorem run_callFunc {f:FuncId} (hf:callable P f=true) (args:Array Value) (w:World):(callFunc f args).run P w=.ok (.enter f args) w:=by
 unfold callable at hf
 split at hf
 ·rename_i fn hfn
  simp only [Bool.and_eq_true,bne_iff_ne,ne_eq] at hf
  obtain ⟨h1,h2⟩:=hf
  have h3:fn.body≠none:=by intro e; rw [e] at h1; cases h1
  simp [callFunc,hfn,h2,h3]
 ·cases hf
theorem snd_call {f:FuncId} {args:List Pm} {objs:List Nat}:Snd P (.call f args objs):=by
 intro E n C st a o d K next Q hinv hok hd h hn hmf
 cases hop:o.op <;> rw [hop] at hok <;> simp only [okOp,Bool.false_eq_true] at hok
 rename_i c
 split at hok
 ·rename_i g hc
  simp only [Bool.and_eq_true,beq_iff_eq] at hok
  obtain ⟨⟨rfl,hcb⟩,hargs⟩:=hok
  obtain ⟨hl,hget⟩:=okPms_get hargs
  simp only [eff] at h
  have hrun:(execOp a.eval o).run P C.w=.ok (.enter f (c.args.toList.map a.eval).toArray) C.w:=by
   have e:(c.args.toList.map a.eval).toArray=c.args.map a.eval:=by
    apply Array.ext'; simp
   rw [e]
   have:=run_callFunc hcb (c.args.map a.eval) C.w
   simp [execOp,hop,resolve,hc,Deferred.ofValue,Act.eval,invoke,this]
  unfold Oper.wp
  rw [hrun]
  refine Calls.mono (call_sound hinv h (fun hne=>hinv.mball (by
  cases hnm:n.nomap with
  |false=>rfl
  |true=>exact absurd (List.isEmpty_iff.1 (hmf hnm)) hne)) (by simpa using hl) fun C1 st1 hi1 _ _ _ _ i p hi=>?_) ?_
  ·obtain ⟨y,hy,hok⟩:=hget i p hi
   have:(List.map a.eval c.args.toList).getD i undef=a.eval y:=by simp [List.getD,List.getElem?_map,hy]
   rw [this]
   exact hi1.ev hok
  ·rintro e w' ⟨v,C',st',av,rfl,rfl,hi',hR,hK⟩
   exact hn C' _ _ (hi'.put hd hR) hK
 ·cases hok
theorem getD_append {α:Type} (rel:Pm->α->Prop) (z:α):∀ {l1 l2:List Pm} {m1 m2:List α},l1.length=m1.length->(∀ (i:Nat) p,l1[i]?=some p->rel p (m1.getD i z))->(∀ (i:Nat) p,l2[i]?=some p->rel p (m2.getD i z)) ->
  ∀ (i:Nat) p,(l1 ++ l2)[i]?=some p->rel p ((m1 ++ m2).getD i z):=by
 intro l1 l2 m1 m2 hl h1 h2 i p hi
 by_cases hlt:i < l1.length
 ·rw [List.getElem?_append_left hlt] at hi
  rw [List.getD,List.getElem?_append_left (by omega)]
  exact h1 i p hi
 ·rw [List.getElem?_append_right (by omega)] at hi
  rw [List.getD,List.getElem?_append_right (by omega),<- hl]
  exact h2 _ p hi
theorem snd_callp {f:FuncId} {args:List Pm} {cands:List Nat}:Snd P (.callp f args cands):=by
 intro E n C st a o d K next Q hinv hok hd h hn hmf
 simp only [eff] at h
 split at h
 ·rename_i r _
  have hok':okOp P (.call f args [r]) o.op=true:=by rw [<- hok]; cases o.op <;> rfl
  exact snd_call (objs:=[r]) hinv hok' hd h hn (fun e=>by have:=hmf e; simp [O.mapFree] at this)
 ·exact h.elim
theorem snd_calln {x:X} {args:List Pm} {objs:List Nat}:Snd P (.calln x args objs):=by
 intro E n C st a o d K next Q hinv hok hd h hn hmf
 cases hop:o.op <;> rw [hop] at hok <;> simp only [okOp,Bool.false_eq_true] at hok
 rename_i c
 split at hok
 ·rename_i y hc
  simp only [Bool.and_eq_true] at hok
  obtain ⟨hx,hargs⟩:=hok
  obtain ⟨hl,hget⟩:=okPms_get hargs
  have hX:=hinv.ev hx
  simp only [eff] at h
  cases hx':x.ev st with
  |fn f first caps =>
   rw [hx'] at hX h
   simp only at h
   obtain ⟨hcb,hc1,hc2,hk⟩:=h
   generalize hu:a.eval y=u at hX
   cases hX with
   |fn _ _ _ us ws l1 l2 r1 r2 =>
    have hrun:(execOp a.eval o).run P C.w=.ok (.enter f (us ++ c.args.toList.map a.eval ++ ws).toArray) C.w:=by
     have e:(us ++ c.args.toList.map a.eval ++ ws).toArray=us.toArray ++ c.args.map a.eval ++ ws.toArray:=by
      apply Array.ext'; simp
     rw [e]
     have:=run_callFunc hcb (us.toArray ++ c.args.map a.eval ++ ws.toArray) C.w
     simpa [execOp,hop,resolve,hc,Deferred.ofValue,hu,invoke] using this
    unfold Oper.wp
    rw [hrun]
    have closedR:∀ {vs:List V} {us:List Value},V.closedL vs=true->(∀ (j:Nat) (c:V),vs[j]?=some c->R C c (us.getD j undef))->∀ (C1:Ctx),C1.w=C.w->C1.F=C.F->C1.G=C.G ->
      ∀ (st1:St) (i:Nat) (p:Pm),(vs.map fun v=>Pm.ro (.k v))[i]?=some p->R C1 (p.x.ev st1) (us.getD i undef):=fun hcl hr C1 w1 F1 G1 st1 i p hi=>by
     simp only [List.getElem?_map,Option.map_eq_some_iff] at hi
     obtain ⟨v,hv,rfl⟩:=hi
     exact R.of_closed (C:=C) (C':=C1) (fun b off hF=>⟨by rw [F1]; exact hF,by rw [w1]⟩) (fun b hb=>by rw [G1]; exact hb) (hr i v hv) (closedL_all hcl i v hv)
    refine Calls.mono (call_sound hinv hk (fun hne=>hinv.mball (by
  cases hnm:n.nomap with
  |false=>rfl
  |true=>exact absurd (List.isEmpty_iff.1 (hmf hnm)) hne)) (us:=us ++ c.args.toList.map a.eval ++ ws) (by simp [l1,l2,hl]) fun C1 st1 hi1 w1 F1 G1 _=>?_) ?_
    ·refine getD_append (fun p u=>R C1 (p.x.ev st1) u) undef (by simp [l1,hl]) (getD_append (fun p u=>R C1 (p.x.ev st1) u) undef (by simp [l1]) (closedR hc1 r1 C1 w1 F1 G1 st1) ?_) (closedR hc2 r2 C1 w1 F1 G1 st1)
     intro i p hi
     obtain ⟨y,hy,hok⟩:=hget i p hi
     have:(List.map a.eval c.args.toList).getD i undef=a.eval y:=by simp [List.getD,List.getElem?_map,hy]
     rw [this]
     exact hi1.ev hok
    ·rintro e w' ⟨v,C',st',av,rfl,rfl,hi',hR,hK⟩
     exact hn C' _ _ (hi'.put hd hR) hK
  |_=>rw [hx'] at h; exact absurd h (by simp)
 ·cases hok
end Go.Ab

namespace Go.Ab
open Go Go.MapKept
variable {E:Ent} {n:Sz} {C:Ctx} {st:St} {a:Act} {P:Program}
theorem run_equal_nil {t e:TypeId} {ao:Option Addr} {m c:Nat} (ht:P.underlying t=some (.slice e)) (w:World) :
  (Op.equal t (.slice ao m c) (.slice none 0 0)).run P w=.ok ao.isNone w:=by
 show (Op.equalIn (9999+1) t (.slice ao m c) (.slice none 0 0)).run P w=.ok ao.isNone w
 unfold Op.equalIn
 cases ao <;> simp [run_underlying ht,Result.andThen]
theorem run_eq_nil {t e:TypeId} {ao:Option Addr} {m c:Nat} {b:BinOp} {ng:Bool} (hb:(b=.eql/\ng=false)\/(b=.neq/\ng=true)) (ht:P.underlying t=some (.slice e)) (w:World) :
  (binOp b t (.slice ao m c) (.slice none 0 0)).run P w=.ok (.bool (ng ^^ ao.isNone)) w:=by
 rcases hb with ⟨rfl,rfl⟩|⟨rfl,rfl⟩
 ·simp only [binOp]; simp [run_equal_nil ht w,Result.andThen]
 ·simp only [binOp]; simp [run_equal_nil ht w,Result.andThen]
theorem slice_forms {v:V} {u:Value} (h:R C v u):(∀ fr s rows,v=.sl fr s rows->∃ ao m c,u=.slice ao m c/\(rows≠[]->ao.isNone=false))/\(∀ s,v=.nils s->∃ ao m c,u=.slice ao m c)/\∀ r i k,v=.sref r i k->∃ ao m c,u=.slice ao m c:=by
 cases h <;> refine ⟨fun _ _ _ e=>?_,fun _ e=>?_,fun _ _ _ e=>?_⟩ <;> cases e
 all_goals first
  |exact ⟨_,_,_,rfl,fun _=>rfl⟩
  |exact ⟨_,_,_,rfl,fun h=>absurd rfl h⟩
  |exact ⟨_,_,_,rfl⟩
theorem snd_niltest {ng:Bool} {x:X}:Snd P (.niltest ng x):=by
 intro E n C st a o d K next Q hinv hok hd h hn _
 cases hop:o.op <;> rw [hop] at hok <;> simp only [okOp,Bool.false_eq_true] at hok
 rename_i b t x' y' t'
 simp only [Bool.and_eq_true] at hok
 obtain ⟨⟨⟨h1,h2⟩,h3⟩,h4⟩:=hok
 have hy:=isNil_spec h4
 subst hy
 have hb:(b=.eql/\ng=false)\/(b=.neq/\ng=true):=by
  simp only [Bool.or_eq_true,Bool.and_eq_true,beq_iff_eq,Bool.not_eq_true'] at h1
  exact h1
 have ht:∃ e,P.underlying t=some (.slice e):=by
  split at h2
  ·rename_i e he; exact ⟨e,he⟩
  ·cases h2
 obtain ⟨e,ht⟩:=ht
 obtain ⟨f1,f2,f3⟩:=slice_forms (hinv.ev h3)
 have fin:∀ ao m c,a.eval x'=.slice ao m c->K (st.put d (.bool (ng ^^ ao.isNone)))->o.wp P a C.w next Q:=fun ao m c hu hK=>by
  have hrun:=run_eq_nil (ao:=ao) (m:=m) (c:=c) hb ht C.w
  refine wp_value (u:=.bool (ng ^^ ao.isNone)) (w':=C.w) ?_ (hn C _ _ (hinv.put hd (.bool _)) hK)
  have h0:a.eval (.const (.slice none 0 0))=.slice none 0 0:=rfl
  rcases hb with ⟨rfl,rfl⟩|⟨rfl,rfl⟩ <;> simp [execOp,hop,hu,h0,eqGuard,hrun,Result.andThen]
 simp only [eff] at h
 split at h
 ·rename_i fr s rows hx
  obtain ⟨ao,m,c,hu,hne⟩:=f1 _ _ _ hx
  by_cases hr:rows=[]
  ·cases hao:ao.isNone with
   |true=>exact fin ao m c hu (by rw [hao]; exact (h.1 hr).1)
   |false=>exact fin ao m c hu (by rw [hao]; exact (h.1 hr).2)
  ·exact fin ao m c hu (by rw [hne hr]; exact h.2 hr)
 ·rename_i s hx
  obtain ⟨ao,m,c,hu⟩:=f2 _ hx
  cases hao:ao.isNone with
  |true=>exact fin ao m c hu (by rw [hao]; exact h.1)
  |false=>exact fin ao m c hu (by rw [hao]; exact h.2)
 ·rename_i r i k hx
  obtain ⟨ao,m,c,hu⟩:=f3 _ _ _ hx
  cases hao:ao.isNone with
  |true=>exact fin ao m c hu (by rw [hao]; exact h.1)
  |false=>exact fin ao m c hu (by rw [hao]; exact h.2)
 ·exact h.elim
theorem snd_mkm {r:Nat}:Snd P (.mkm r):=by
 intro E n C st a o d K next Q hinv hok hd h hn hmf
 cases hop:o.op <;> rw [hop] at hok <;> simp only [okOp,Bool.false_eq_true] at hok
 rename_i t rs
 simp only [Bool.and_eq_true] at hok
 have hrs:rs=none:=by
  cases rs with
  |none=>rfl
  |some _=>simp at hok
 subst hrs
 simp only [eff] at h
 obtain ⟨hr,hK⟩:=h
 have hx:=Ext.alloc C.w (.map #[] 0)
 have h1:=hinv.ext hx
 have hfs:=hinv.frame.size
 have hb:(C.w.alloc (.map #[] 0)).heap[C.w.heap.size]?=some (.map #[] 0):=(MapKept.heap_alloc C.w _).1
 have h2:=h1.obj (L:=some ⟨C.w.heap.size,0,0⟩) hr (o:=.mp [] []) (by
  unfold ObjOk
  simp only [upd,if_true]
  refine ⟨_,rfl,⟨0,#[],hb,rfl,rfl,fun j k hj=>by simp at hj,fun j v hj=>by simp at hj⟩,hfs,fun off hf=>absurd (hinv.fin _ _ hf) (Nat.lt_irrefl _),hinv.mball (by
   cases hnm:n.nomap with
   |false=>rfl
   |true=>exact absurd (hmf hnm) (by simp [O.mapFree])) _⟩) (by
  rintro L' hL' r' L'' _ hl ha
  cases hL'
  exact hinv.beside (Nat.le_refl _) r' L'' hl ha)
 refine wp_value (u:=.map (some C.w.heap.size)) (w':=C.w.alloc (.map #[] 0)) ?_ (hn _ _ _ (h2.put hd (.mp r [] [] ⟨C.w.heap.size,0,0⟩ (by simp [upd]) (by simp [upd]))) hK)
 have hmk:(Instr.makeMap t none).run P C.w=.ok (.map (some C.w.heap.size)) (C.w.alloc (.map #[] 0)):=rfl
 simp [execOp,hop,hmk,Result.andThen]
theorem keyLike_key {kd k:V} (h:kd.keyLike k=true):k.keyOk=true:=by
 cases kd <;> cases k <;> simp [V.keyLike] at h <;> rfl
theorem keyLike_isKey {kd k:V} {t:TypeId} {u:Value} (ht:keyTy P t kd=true) (h:kd.keyLike k=true) (hR:R C k u):∃ d,P.underlying t=some d/\IsKey d u:=by
 unfold keyTy at ht
 split at ht
 ·rename_i hu
  cases k <;> simp [V.keyLike] at h
  cases hR
  exact ⟨_,hu,trivial⟩
 ·rename_i q _ _ hu
  cases k <;> simp [V.keyLike] at h
  cases hR
  simp at ht
  subst ht h
  exact ⟨_,hu,rfl⟩
 ·rename_i hu
  cases k <;> simp [V.keyLike] at h
  cases hR
  exact ⟨_,hu,trivial⟩
 ·cases ht
theorem str_eq {a b:ByteArray}:(a.toList == b.toList)=true↔b=a:=by
 constructor
 ·intro e
  have e2:a.data.toList=b.data.toList:=by simpa [ByteArray.toList_eq] using e
  cases a; cases b
  simp only [ByteArray.mk.injEq]
  exact (Array.ext' e2).symm
 ·rintro rfl; simp
theorem keyIs_iff {kd k x:V} {u v:Value} (h:kd.keyLike k=true) (h':kd.keyLike x=true) (hR:R C k u) (hR':R C x v):k.keyIs x=true↔v=u:=by
 cases k <;> cases x <;> cases kd <;> simp [V.keyLike] at h h' <;> cases hR <;> cases hR'
 ·simp [V.keyIs]; exact eq_comm
 ·subst h h'; simp [V.keyIs]; exact eq_comm
 ·simp only [V.keyIs,Value.string.injEq]; exact str_eq
theorem find_first {d:TypeDesc} {u:Value} (hu:IsKey d u):∀ (l:List MapEntry) (i:Nat),(∀ x∈l,IsKey d x.key) ->
  (Instr.findNow d u l i=some none/\∀ x∈l,x.key≠u)\/∃ j e,Instr.findNow d u l i=some (some (i+j,e.val))/\l[j]?=some e/\e.key=u/\∀ j' e',j' < j->l[j']?=some e'->e'.key≠u
 |[],_,_=>.inl ⟨rfl,by simp⟩
 |e :: es,i,h=>by
  obtain ⟨r,hr,hiff⟩:=sameNow_of_keys hu (h e (.head _))
  cases r with
  |true=>exact .inr ⟨0,e,by simp [Instr.findNow,hr],rfl,(hiff.1 rfl).symm,fun j' e' hj=>by omega⟩
  |false =>
   have hne:e.key≠u:=fun q=>by have:=hiff.2 q.symm; cases this
   rcases find_first hu es (i+1) (fun x hx=>h x (.tail _ hx)) with ⟨h1,h2⟩|⟨j,e',h1,h2,h3,h4⟩
   ·exact .inl ⟨by simp [Instr.findNow,hr,h1],fun x hx=>by
     cases hx with
     |head=>exact hne
     |tail _ hx=>exact h2 x hx⟩
   ·refine .inr ⟨j+1,e',by simp [Instr.findNow,hr,h1]; omega,by simpa using h2,h3,fun j' e2 hj he=>?_⟩
    cases j' with
    |zero=>simp at he; subst he; exact hne
    |succ j'=>exact h4 j' e2 (by omega) (by simpa using he)
theorem midx_spec {kd k:V} {u:Value} (h:kd.keyLike k=true) (hR:R C k u):∀ (ks:List V) (l:List MapEntry),ks.length=l.length->(∀ x∈ks,kd.keyLike x=true)->(∀ (j:Nat) x,ks[j]?=some x->∃ e,l[j]?=some e/\R C x e.key) ->
  (midx k ks=none/\∀ x∈l,x.key≠u)\/∃ j e,midx k ks=some j/\l[j]?=some e/\e.key=u/\∀ j' e',j' < j->l[j']?=some e'->e'.key≠u
 |[],[],_,_,_=>.inl ⟨rfl,by simp⟩
 |[],_::_,hl,_,_=>by simp at hl
 |_::_,[],hl,_,_=>by simp at hl
 |x :: ks,e::l,hl,hk,hr=>by
  obtain ⟨e0,he0,hx⟩:=hr 0 x rfl
  simp at he0
  subst he0
  have hiff:=keyIs_iff h (hk x (by simp)) hR hx
  by_cases hc:k.keyIs x=true
  ·exact .inr ⟨0,e,by simp [midx,hc],rfl,hiff.1 hc,fun j' e' hj=>by omega⟩
  ·have hne:e.key≠u:=fun q=>hc (hiff.2 q)
   rcases midx_spec h hR ks l (by simpa using hl) (fun x hx=>hk x (by simp [hx])) (fun j x hj=>by simpa using hr (j+1) x (by simpa using hj)) with ⟨h1,h2⟩|⟨j,e',h1,h2,h3,h4⟩
   ·exact .inl ⟨by simp [midx,hc,h1],fun y hy=>by
     cases hy with
     |head=>exact hne
     |tail _ hy=>exact h2 y hy⟩
   ·refine .inr ⟨j+1,e',by simp [midx,hc,h1],by simpa using h2,h3,fun j' e2 hj he=>?_⟩
    cases j' with
    |zero=>simp at he; subst he; exact hne
    |succ j'=>exact h4 j' e2 (by omega) (by simpa using he)
theorem Inv.map (h:Inv E n C st a) {r:Nat} {ks vs:List V} (hh:st.heap r=.mp ks vs) {u:Value} (hR:R C (.mp r) u):∃ L,u=.map (some L.blk)/\C.heap r=.mp ks vs/\C.loc r=some L/\MapOk E C r L ks vs:=by
 cases hR with
 |mp _ ks' vs' L q1 q2 =>
  have hC:C.heap r=.mp ks vs:=by rw [h.heap]; exact hh
  have ho:=h.objs r
  unfold ObjOk at ho
  rw [hC] at ho
  obtain ⟨L',h1,h2⟩:=ho
  rw [q2] at h1; cases h1
  exact ⟨L,rfl,hC,q2,h2⟩
theorem mem_get {α:Type} {l:List α} {x:α} (h:x∈l):∃ j:Nat,l[j]?=some x:=List.getElem?_of_mem h
theorem keys_isKey {kd:V} {t:TypeId} (ht:keyTy P t kd=true) {ks:List V} {ents:Array MapEntry} (hl:ks.length=ents.size) (hk:∀ x∈ks,kd.keyLike x=true) (hr:∀ (j:Nat) k,ks[j]?=some k->k.keyOk=true/\∃ e,ents[j]?=some e/\R C k e.key)
  {d:TypeDesc} (hd:P.underlying t=some d):∀ x∈ents.toList,IsKey d x.key:=by
 intro x hx
 obtain ⟨j,hj⟩:=mem_get hx
 have hlt:j < ks.length:=by
  have:=(List.getElem?_eq_some_iff.1 hj).1
  simpa [hl] using this
 obtain ⟨_,e,he,hR⟩:=hr j ks[j] (by simp [hlt])
 rw [Array.getElem?_toList] at hj
 rw [he] at hj; cases hj
 obtain ⟨d',hd',hik⟩:=keyLike_isKey (C:=C) ht (hk _ (List.getElem_mem hlt)) hR
 rw [hd] at hd'; cases hd'
 exact hik
theorem okOp_mget {kd z:V} {x k:X} {op:Op} (h:okOp P (.mget kd z x k) op=true) :
  ∃ t y j kt e,op=.lookup t y j false/\P.underlying t=some (.map kt e)/\keyTy P kt kd=true/\zeroIs P e (fun v=>constOk z v)=true/\okX x y=true/\okX k j=true:=by
 cases op with
 |lookup t y j b =>
  simp only [okOp,Bool.and_eq_true,Bool.not_eq_true'] at h
  obtain ⟨⟨⟨rfl,h1⟩,h2⟩,h3⟩:=h
  split at h1
  ·rename_i kt e hu
   simp only [Bool.and_eq_true] at h1
   exact ⟨t,y,j,kt,e,rfl,hu,h1.1,h1.2,h2,h3⟩
  ·cases h1
 |_=>simp [okOp] at h
theorem snd_mget {kd z:V} {x k:X}:Snd P (.mget kd z x k):=by
 intro E n C st a o d K next Q hinv hok hd h hn _
 obtain ⟨t,y,j,kt,e,hop,ht,hkt,hz,hx,hk⟩:=okOp_mget hok
 simp only [eff] at h
 split at h
 ·rename_i r ex
  split at h
  ·rename_i ks vs hh
   obtain ⟨hk1,hk2,hK⟩:=h
   have hX:=hinv.ev hx
   rw [ex] at hX
   obtain ⟨L,hu,hC,hl,⟨clock,ents,g1,g2,g3,g4,g5⟩,g6,g7⟩:=hinv.map hh hX
   have hRk:=hinv.ev hk
   obtain ⟨desc,hdesc,hik⟩:=keyLike_isKey hkt hk1 hRk
   have hks:=keys_isKey hkt g2 hk2 g4 hdesc
   obtain ⟨i,zv,hi,hzv,hzc⟩:=zeroIs_spec hz
   have hzero:∀ w,(zeroValue e).run P w=.ok zv w:=fun w=>by simp [zeroValue,typeInfo,hi,hzv,Result.andThen]
   have hrunF:∀ res,Instr.findNow desc (a.eval j) ents.toList 0=some res->(Instr.lookup t (.map (some L.blk)) (a.eval j) false).run P C.w=.ok (match res with|some (_,v)=>v|none=>zv) C.w:=by
    intro res hf
    cases res with
    |none=>simp [Instr.lookup,run_underlying ht,MapKept.run_getObj_map g1,MapKept.run_checkKey hdesc hik,MapKept.run_findKey hdesc hf,hzero,Result.andThen]
    |some p=>simp [Instr.lookup,run_underlying ht,MapKept.run_getObj_map g1,MapKept.run_checkKey hdesc hik,MapKept.run_findKey hdesc hf,Result.andThen]
   have hm:=midx_spec hk1 hRk ks ents.toList (by simpa using g2) hk2 (fun j x hj=>by
    obtain ⟨_,e,he,hR⟩:=g4 j x hj
    exact ⟨e,by simpa using he,hR⟩)
   rcases find_first hik ents.toList 0 hks with ⟨f1,f2⟩|⟨q,en,f1,f2,f3,f4⟩
   ·have hidx:midx (k.ev st) ks=none:=by
     rcases hm with ⟨m1,_⟩|⟨q,en,m1,m2,m3,_⟩
     ·exact m1
     ·exact absurd m3 (f2 en (List.mem_of_getElem? m2))
    rw [show mfind (k.ev st) ks vs=none by simp [mfind,hidx]] at hK
    refine wp_value (u:=zv) (w':=C.w) ?_ (hn C _ _ (hinv.put hd (constOk_R hzc C)) hK)
    simp [execOp,hop,hu,hrunF _ f1]
   ·have hidx:midx (k.ev st) ks=some q:=by
     rcases hm with ⟨_,m2⟩|⟨q',en',m1,m2,m3,m4⟩
     ·exact absurd f3 (m2 en (List.mem_of_getElem? f2))
     ·rw [m1]; congr 1
      rcases Nat.lt_trichotomy q' q with hlt|heq|hlt
      ·exact absurd m3 (f4 q' en' hlt m2)
      ·exact heq
      ·exact absurd f3 (m4 q en hlt f2)
    have hqv:q < vs.length:=by
     have:=(List.getElem?_eq_some_iff.1 f2).1
     simpa [g3] using this
    rw [show mfind (k.ev st) ks vs=some vs[q] by simp [mfind,hidx,hqv]] at hK
    obtain ⟨en',he',hent⟩:=g5 q vs[q] (by simp [hqv])
    have:en'=en:=by
     rw [Array.getElem?_toList] at f2
     rw [he'] at f2; cases f2; rfl
    subst this
    refine wp_value (u:=en'.val) (w':=C.w) ?_ (hn C _ _ (hinv.put hd hent.value.2) hK)
    simp [execOp,hop,hu,hrunF _ f1]
  ·exact h.elim
 ·exact h.elim
theorem okOp_mlen {x:X} {op:Op} (h:okOp P (.mlen x) op=true):∃ c y t kt e,op=.call c/\c.callee=.builtin .len/\c.args=#[y]/\c.argTypes=#[t]/\P.underlying t=some (.map kt e)/\okX x y=true:=by
 cases op with
 |call c =>
  simp only [okOp] at h
  split at h
  ·rename_i y t hc ha ht
   simp only [Bool.and_eq_true] at h
   obtain ⟨h1,h2⟩:=h
   split at h1
   ·rename_i kt e hu
    exact ⟨c,y,t,kt,e,rfl,hc,by rw [<- ha],by rw [<- ht],hu,h2⟩
   ·cases h1
  ·cases h
 |_=>simp [okOp] at h
theorem snd_mlen {x:X}:Snd P (.mlen x):=by
 intro E n C st a o d K next Q hinv hok hd h hn _
 obtain ⟨c,y,t,kt,e,hop,hc,ha,hty,ht,hx⟩:=okOp_mlen hok
 simp only [eff] at h
 split at h
 ·rename_i r ex
  split at h
  ·rename_i ks vs hh
   have hX:=hinv.ev hx
   rw [ex] at hX
   obtain ⟨L,hu,hC,hl,⟨clock,ents,g1,g2,g3,g4,g5⟩,g6,g7⟩:=hinv.map hh hX
   refine wp_value (u:=.int .i64 ents.size) (w':=C.w) ?_ (hn C _ _ (hinv.put hd (by rw [<- g2]; exact .int _ _)) h)
   simp [execOp,hop,resolve,hc,ha,hty,hu,invoke,builtin,Builtin.len_,run_underlying ht,MapKept.run_getObj_map g1,Result.andThen,goInt]
  ·exact h.elim
 ·exact h.elim
theorem EntOk.mono1 {C':Ctx} {r j:Nat} {v:V} {u:Value} (hc:Le C C')
  (hk:∀ b,C.own b=some (r,j)->C.F b 0->C.G b->C'.own b=C.own b/\C'.w.heap[b]?=C.w.heap[b]?/\∀ off,C'.F b off->C.F b off) (h:EntOk E C r j v u):EntOk E C' r j v u:=by
 by_cases hv:∃ s rows,v=.own s rows
 ·obtain ⟨s,rows,rfl⟩:=hv
  obtain ⟨b,cap,cur,e,g,h1,h2,h3,h4,h5,h6,h7,h8,h9,h10,h11,h12,h13⟩:=h
  obtain ⟨c0,hc0⟩:=row_first h2 h3 h6
  have hF0:=(h9 0 0 c0 hc0).2.2.1
  simp only [Nat.zero_mul,Nat.zero_add] at hF0
  obtain ⟨k0,k1,k2⟩:=hk b h12 hF0 h11
  refine ⟨b,cap,cur,e,g,h1,h2,h3,h4,h5,h6,k1.trans h7,h8,fun i j c hij=>?_,h10,hc.G _ h11,by rw [k0]; exact h12,fun off ho hf=>h13 off ho (k2 off hf)⟩
  obtain ⟨a1,a2,a3,a4,a5⟩:=h9 i j c hij
  exact ⟨a1,a2,(hc.F _ _ a3).1,a4,a5.mono hc⟩
 ·have hne:∀ s rows,v≠.own s rows:=fun s rows e=>hv ⟨s,rows,e⟩
  rw [EntOk.other hne] at h ⊢
  exact ⟨h.1,h.2.mono hc⟩
theorem Inv.mapWorld (h:Inv E n C st a) {r:Nat} {L:Loc} {ks vs ks' vs':List V} (hh:C.heap r=.mp ks vs) (hl:C.loc r=some L)
  {w':World} {F':Nat->Nat->Prop} {own':Nat->Option (Nat×Nat)} (cc:Nat->Prop)
  (hos:w'.os=C.w.os) (hout:w'.output=C.w.output) (htape:w'.tape=C.w.tape) (hsz:C.w.heap.size<=w'.heap.size)
  (hsame:∀ i,i < C.w.heap.size->i≠L.blk->¬ cc i->w'.heap[i]?=C.w.heap[i]?)
  (hcc:∀ i,cc i->i < C.w.heap.size->C.F i 0/\C.G i/\(∃ j,C.own i=some (r,j))/\E.w0.heap.size<=i/\(∀ off,C.F i off->w'.cell? ⟨i,off,none⟩=C.w.cell? ⟨i,off,none⟩)/\∀ o,C.w.heap[i]?=some o->¬ KeepO E i o)
  (hFle:∀ b off,C.F b off->F' b off) (hFnew:∀ b off,F' b off->C.F b off\/(cc b/\b < w'.heap.size)) (hown:∀ b,b < C.w.heap.size->own' b=C.own b)
  (hok:Le C { C with w:=w',F:=F',own:=own',heap:=upd C.heap r (.mp ks' vs') }->MapOk E { C with w:=w',F:=F',own:=own',heap:=upd C.heap r (.mp ks' vs') } r L ks' vs') :
  Inv E n { C with w:=w',F:=F',own:=own',heap:=upd C.heap r (.mp ks' vs') } (st.set r (.mp ks' vs')) a:=by
 have ho:=h.objs r
 unfold ObjOk at ho
 rw [hh] at ho
 obtain ⟨L',hl',hmo⟩:=ho
 rw [hl] at hl'; cases hl'
 have hnew:=hmo.2.1
 have hnF:=hmo.2.2.1
 obtain ⟨clk,ets,hmap,_⟩:=hmo.1
 have hle:Le C { C with w:=w',F:=F',own:=own',heap:=upd C.heap r (.mp ks' vs') }:=by
  refine ⟨fun b off hf=>⟨hFle b off hf,?_⟩,fun _ h=>h,fun r' cs _ h'=>?_,fun r' s rs _ h'=>?_,fun r' k v _ h'=>?_⟩
  ·by_cases hc:cc b
   ·exact (hcc b hc (h.fin b off hf)).2.2.2.2.1 off hf
   ·exact World.cell?_of_block (a:=⟨b,off,none⟩) (hsame b (h.fin b off hf) (fun e=>hnF off (e ▸ hf)) hc)
  ·have hne:r'≠r:=fun e=>by subst e; rw [hh] at h'; cases h'
   exact ⟨⟨cs,by simp [upd,hne,h']⟩,rfl⟩
  ·have hne:r'≠r:=fun e=>by subst e; rw [hh] at h'; cases h'
   exact ⟨⟨rs,by simp [upd,hne,h'],rfl⟩,rfl⟩
  ·by_cases hne:r'=r
   ·subst hne; exact ⟨⟨ks',vs',by simp [upd]⟩,rfl⟩
   ·exact ⟨⟨k,v,by simp [upd,hne,h']⟩,rfl⟩
 have hdead:∀ r',(upd C.heap r (.mp ks' vs') r').isDead=false->(C.heap r').isDead=false:=by
  intro r' hd
  by_cases hrr:r'=r
  ·subst hrr; rw [hh]; rfl
  ·simpa [upd,hrr] using hd
 have hist:Hist E { C with w:=w',F:=F',own:=own',heap:=upd C.heap r (.mp ks' vs') } a:=h.hist hle.F (hs:=hsz) fun b o ho hb=>by
  refine (hsame b (block_lt hb) (fun e=>?_) fun hc=>?_).trans hb
  ·rw [e,hmap] at hb; cases hb; exact ho (by rw [e]; exact hmo.2.2.2)
  ·exact (hcc b hc (block_lt hb)).2.2.2.2.2 o hb ho
 exact {
   heap := by simp [St.set,h.heap]
   env:=fun t=>(h.env t).mono hle
   objs := fun r'=>by
    by_cases hrr:r'=r
    ·subst hrr
     unfold ObjOk
     simp only [upd,if_true]
     exact ⟨L,hl,hok hle⟩
    ·refine (h.objs r').mono hle ⟨fun b j hob hF hG=>?_⟩ (by simp [upd,hrr]) rfl fun L' hl' ha'=>?_
     ·have hlt:=h.fin b 0 hF
      have hc:¬ cc b:=fun hc=>by
       obtain ⟨_,_,⟨j',hj'⟩,_⟩:=hcc b hc hlt
       rw [hob] at hj'
       simp at hj'
       exact hrr hj'.1
      exact ⟨hown b hlt,hsame b hlt (fun e=>hnF 0 (e ▸ hF)) hc,fun off hf=>(hFnew b off hf).resolve_right fun hq=>hc hq.1⟩
     ·have hlt:=(h.objs r').lt hl' ha'
      have hc:¬ cc L'.blk:=fun hc=>by
       obtain ⟨q1,q2,_⟩:=hcc _ hc hlt
       exact (h.objs r').apart hl' ha' q1 q2 rfl
      exact ⟨hsame _ hlt (fun e=>hrr (h.inj r' r L' L hl' hl ha' (by rw [hh]; rfl) e)) hc,fun off hf=>(hFnew _ off hf).resolve_right fun hq=>hc hq.1,fun h=>h⟩
   inj:=fun r1 r2 L1 L2 h1 h2 d1 d2 hb=>h.inj r1 r2 L1 L2 h1 h2 (hdead r1 d1) (hdead r2 d2) hb
   fin:=fun b off hf=>by
    rcases hFnew b off hf with hf|hf
    ·exact Nat.lt_of_lt_of_le (h.fin b off hf) hsz
    ·exact hf.2
   gnew:=h.gnew,gsub:=h.gsub,par:=h.par
   fnew:=fun b off hf=>by
    rcases hFnew b off hf with hf|hf
    ·exact h.fnew b off hf
    ·refine .inr ?_
     rcases Nat.lt_or_ge b C.w.heap.size with hlt|hge
     ·exact (hcc b hf.1 hlt).2.1
     ·exact h.gnew b (Nat.le_trans h.frame.size hge)
   frame:=⟨hos.trans h.frame.os,hout.trans h.frame.output,htape.trans h.frame.tape,Nat.le_trans h.frame.size hsz,fun b hb=>by
    have hlt:=Nat.lt_of_lt_of_le hb h.frame.size
    have e:w'.heap[b]?=C.w.heap[b]?:=hsame b hlt (fun e=>by omega) fun hc=>by have:=(hcc b hc hlt).2.2.2.1; omega
    simp only
    rw [e]; exact h.frame.same b hb⟩
   marks:=hist.marks,mnd:=hist.mnd,fkeep:=hist.fkeep,stay:=hist.stay,wsz:=hist.wsz,mball:=h.mball,size:=h.size }
theorem mapOk_push {C':Ctx} {r:Nat} {L:Loc} {ks vs:List V} {clock':Nat} {ents:Array MapEntry} {en:MapEntry} {k v:V} (hle:Le C C') (hb':C'.w.heap[L.blk]?=some (.map (ents.push en) clock'))
  (g2:ks.length=ents.size) (g3:vs.length=ents.size) (g4:∀ (j:Nat) k,ks[j]?=some k->k.keyOk=true/\∃ e,ents[j]?=some e/\R C k e.key) (g5:∀ (j:Nat) v,vs[j]?=some v->∃ e,ents[j]?=some e/\EntOk E C r j v e.val)
  (hk:k.keyOk=true/\R C' k en.key) (hv:EntOk E C' r ents.size v en.val) (hold:∀ j v u,j < ents.size->EntOk E C r j v u->EntOk E C' r j v u) (hn:E.w0.heap.size<=L.blk) (hF:(∀ off,¬ C'.F L.blk off)/\E.Mb L.blk) :
  MapOk E C' r L (ks ++ [k]) (vs ++ [v]):=by
 refine ⟨⟨clock',ents.push en,hb',by simp [g2],by simp [g3],fun j x hj=>?_,fun j x hj=>?_⟩,hn,hF⟩
 ·rcases Nat.lt_or_ge j ks.length with hlt|hge
  ·rw [List.getElem?_append_left hlt] at hj
   obtain ⟨a1,e,a2,a3⟩:=g4 j x hj
   exact ⟨a1,e,by rw [Array.getElem?_push_lt (by omega)]; simpa [show j < ents.size by omega] using a2,a3.mono hle⟩
  ·rw [List.getElem?_append_right hge] at hj
   have:j=ks.length:=by
    rcases Nat.lt_or_ge (j - ks.length) 1 with h|h
    ·omega
    ·rw [List.getElem?_eq_none (by simpa using h)] at hj; cases hj
   subst this
   simp at hj
   subst hj
   exact ⟨hk.1,en,by rw [g2]; simp,hk.2⟩
 ·rcases Nat.lt_or_ge j vs.length with hlt|hge
  ·rw [List.getElem?_append_left hlt] at hj
   obtain ⟨e,a2,a3⟩:=g5 j x hj
   exact ⟨e,by rw [Array.getElem?_push_lt (by omega)]; simpa [show j < ents.size by omega] using a2,hold j x _ (by omega) a3⟩
  ·rw [List.getElem?_append_right hge] at hj
   have:j=vs.length:=by
    rcases Nat.lt_or_ge (j - vs.length) 1 with h|h
    ·omega
    ·rw [List.getElem?_eq_none (by simpa using h)] at hj; cases hj
   subst this
   simp at hj
   subst hj
   exact ⟨en,by rw [g3]; simp,by rw [g3]; exact hv⟩
theorem mapOk_set {C':Ctx} {r q:Nat} {L:Loc} {ks vs:List V} {clock':Nat} {ents:Array MapEntry} {f:MapEntry->MapEntry} {k v:V} (hle:Le C C') (hb':C'.w.heap[L.blk]?=some (.map (ents.modify q f) clock'))
  (g2:ks.length=ents.size) (g3:vs.length=ents.size) (g4:∀ (j:Nat) k,ks[j]?=some k->k.keyOk=true/\∃ e,ents[j]?=some e/\R C k e.key) (g5:∀ (j:Nat) v,vs[j]?=some v->∃ e,ents[j]?=some e/\EntOk E C r j v e.val)
  {en:MapEntry} (hq:ents[q]?=some en) (hk:k.keyOk=true/\R C' k (f en).key) (hv:EntOk E C' r q v (f en).val) (hold:∀ j v u,j≠q->EntOk E C r j v u->EntOk E C' r j v u) (hn:E.w0.heap.size<=L.blk) (hF:(∀ off,¬ C'.F L.blk off)/\E.Mb L.blk) :
  MapOk E C' r L (ks.set q k) (vs.set q v):=by
 have hqs:q < ents.size:=(Array.getElem?_eq_some_iff.1 hq).1
 refine ⟨⟨clock',ents.modify q f,hb',by simp [g2],by simp [g3],fun j x hj=>?_,fun j x hj=>?_⟩,hn,hF⟩
 ·by_cases e:j=q
  ·subst e
   rw [List.getElem?_set_self (by omega)] at hj
   simp at hj
   subst hj
   exact ⟨hk.1,f en,by simp [Array.getElem?_modify,hq],hk.2⟩
  ·rw [List.getElem?_set_ne (fun h=>e h.symm)] at hj
   obtain ⟨a1,e',a2,a3⟩:=g4 j x hj
   exact ⟨a1,e',by rw [Array.getElem?_modify,if_neg fun h=>e (Eq.symm h)]; exact a2,a3.mono hle⟩
 ·by_cases e:j=q
  ·subst e
   rw [List.getElem?_set_self (by omega)] at hj
   simp at hj
   subst hj
   exact ⟨f en,by simp [Array.getElem?_modify,hq],hv⟩
  ·rw [List.getElem?_set_ne (fun h=>e h.symm)] at hj
   obtain ⟨e',a2,a3⟩:=g5 j x hj
   exact ⟨e',by rw [Array.getElem?_modify,if_neg fun h=>e (Eq.symm h)]; exact a2,hold j x _ e a3⟩
theorem okOp_mset {kd:V} {x k v:X} {op:Op} (h:okOp P (.mset kd x k v) op=true) :
  ∃ t y j u kt e,op=.mapUpdate t y j u/\P.underlying t=some (.map kt e)/\keyTy P kt kd=true/\okX x y=true/\okX k j=true/\okX v u=true:=by
 cases op with
 |mapUpdate t y j u =>
  simp only [okOp,Bool.and_eq_true] at h
  obtain ⟨⟨⟨h1,h2⟩,h3⟩,h4⟩:=h
  split at h1
  ·rename_i kt e hu
   exact ⟨t,y,j,u,kt,e,rfl,hu,h1,h2,h3,h4⟩
  ·cases h1
 |_=>simp [okOp] at h
theorem snd_mset {kd:V} {x k v:X}:Snd P (.mset kd x k v):=by
 intro E n C st a o d K next Q hinv hok hd h hn _
 obtain ⟨t,y,j,uu,kt,e,hop,ht,hkt,hx,hk,hv⟩:=okOp_mset hok
 simp only [eff] at h
 split at h
 ·rename_i r ex
  split at h
  ·rename_i ks vs hh
   obtain ⟨hk1,hk2,hv1,hv2,hK⟩:=h
   have hX:=hinv.ev hx
   rw [ex] at hX
   obtain ⟨L,hu,hC,hl,⟨clock,ents,g1,g2,g3,g4,g5⟩,g6,g7⟩:=hinv.map hh hX
   have hRk:=hinv.ev hk
   have hRv:=hinv.ev hv
   obtain ⟨desc,hdesc,hik⟩:=keyLike_isKey hkt hk1 hRk
   have hks:=keys_isKey hkt g2 hk2 g4 hdesc
   have hlt:L.blk < C.w.heap.size:=(Array.getElem?_eq_some_iff.1 g1).1
   have hm:=midx_spec hk1 hRk ks ents.toList (by simpa using g2) hk2 (fun j x hj=>by
    obtain ⟨_,e,he,hR⟩:=g4 j x hj
    exact ⟨e,by simpa using he,hR⟩)
   have hclv:∀ s rows,v.ev st≠.own s rows:=fun s rows e=>by rw [e] at hv1; simp [V.closed] at hv1
   have fin:∀ (ents':Array MapEntry) (clock':Nat) (ks' vs':List V),(Instr.mapUpdate t (.map (some L.blk)) (a.eval j) (a.eval uu)).run P C.w=.ok () { C.w with heap:=C.w.heap.setIfInBounds L.blk (.map ents' clock') } ->
     (∀ C',Le C C'->C'.w={ C.w with heap:=C.w.heap.setIfInBounds L.blk (.map ents' clock') }->C'.F=C.F->C'.G=C.G->C'.own=C.own->MapOk E C' r L ks' vs')->K ((st.set r (.mp ks' vs')).put d .undef)->o.wp P a C.w next Q:=by
    intro ents' clock' ks' vs' hrun hmok hK
    have hset:=MapKept.heap_set (o':=.map ents' clock') g1
    have hI:=hinv.mapWorld hC hl (w':={ C.w with heap:=C.w.heap.setIfInBounds L.blk (.map ents' clock') }) (F':=C.F) (own':=C.own) (ks':=ks') (vs':=vs') (fun _=>False) rfl rfl rfl (by simp)
     (fun i _ hne _=>hset.2 i hne) (fun _ h=>h.elim) (fun _ _ h=>h) (fun _ _ h=>.inl h) (fun _ _=>rfl) (fun hle=>hmok _ hle rfl rfl rfl rfl)
    refine wp_skip' (w':={ C.w with heap:=C.w.heap.setIfInBounds L.blk (.map ents' clock') }) ?_ (hn _ _ _ (hI.put hd (.undef _)) hK)
    simp [execOp,hop,hu,hrun]
   have hkeep:∀ (C':Ctx) (o':Obj),C'.w={ C.w with heap:=C.w.heap.setIfInBounds L.blk o' }->C'.F=C.F->C'.own=C.own->Le C C'->∀ j v u,EntOk E C r j v u->EntOk E C' r j v u:=fun C' o' hw hF ho hle j v u hE =>
    hE.mono1 hle fun b _ hFb _=>⟨by rw [ho],by rw [hw]; exact (MapKept.heap_set (o':=o') g1).2 b fun e=>g7.1 0 (e ▸ hFb),fun off hf=>by rw [hF] at hf; exact hf⟩
   rcases find_first hik ents.toList 0 hks with ⟨f1,f2⟩|⟨q,en,f1,f2,f3,f4⟩
   ·have hidx:midx (k.ev st) ks=none:=by
     rcases hm with ⟨m1,_⟩|⟨q,en,m1,m2,m3,_⟩
     ·exact m1
     ·exact absurd m3 (f2 en (List.mem_of_getElem? m2))
    rw [show mput (k.ev st) (v.ev st) ks vs=(ks ++ [k.ev st],vs ++ [v.ev st]) by simp [mput,hidx]] at hK
    refine fin (ents.push { key:=a.eval j,val:=a.eval uu,born:=clock }) (clock+1) _ _ ?_ (fun C' hle hw hF hG ho=>?_) hK
    ·simp [Instr.mapUpdate,run_underlying ht,MapKept.run_getObj_map g1,MapKept.run_checkKey hdesc hik,MapKept.run_findKey hdesc f1,MapKept.run_setObj_map _ g1,Result.andThen]
    ·refine mapOk_push hle (by rw [hw]; exact (MapKept.heap_set g1).1) g2 g3 g4 g5 ⟨keyLike_key hk1,hRk.mono hle⟩ ?_ (fun j v u _ hE=>hkeep C' _ hw hF ho hle j v u hE) g6 (by rw [hF]; exact g7)
     rw [EntOk.other hclv]
     exact ⟨hv1,hRv.mono hle⟩
   ·have hidx:midx (k.ev st) ks=some q:=by
     rcases hm with ⟨_,m2⟩|⟨q',en',m1,m2,m3,m4⟩
     ·exact absurd f3 (m2 en (List.mem_of_getElem? f2))
     ·rw [m1]; congr 1
      rcases Nat.lt_trichotomy q' q with hlt|heq|hlt
      ·exact absurd m3 (f4 q' en' hlt m2)
      ·exact heq
      ·exact absurd f3 (m4 q en hlt f2)
    have hq:ents[q]?=some en:=by simpa using f2
    rw [show mput (k.ev st) (v.ev st) ks vs=(ks.set q (k.ev st),vs.set q (v.ev st)) by simp [mput,hidx]] at hK
    refine fin (ents.modify q fun e=>{ e with key:=a.eval j,val:=a.eval uu }) clock _ _ ?_ (fun C' hle hw hF hG ho=>?_) hK
    ·have f1':Instr.findNow desc (a.eval j) ents.toList 0=some (some (q,en.val)):=by simpa using f1
     simp [Instr.mapUpdate,run_underlying ht,MapKept.run_getObj_map g1,MapKept.run_checkKey hdesc hik,MapKept.run_findKey hdesc f1',hq,f3,run_keyThatStays hik,MapKept.run_setObj_map _ g1,Result.andThen]
    ·refine mapOk_set (f:=fun e=>{ e with key:=a.eval j,val:=a.eval uu }) hle (by rw [hw]; exact (MapKept.heap_set g1).1) g2 g3 g4 g5 hq ⟨keyLike_key hk1,hRk.mono hle⟩ ?_ (fun j v u _ hE=>hkeep C' _ hw hF ho hle j v u hE) g6 (by rw [hF]; exact g7)
     rw [EntOk.other hclv]
     exact ⟨hv1,hRv.mono hle⟩
  ·exact h.elim
 ·exact h.elim
theorem okOp_mput {f:FuncId} {x g k m:X} {op:Op} (h:okOp P (.mput f x g k m) op=true) :
  ∃ c y g' k' m',op=.call c/\c.callee=.value (.func f)/\c.args=#[y,g',k',m']/\okX x y=true/\okX g g'=true/\okX k k'=true/\okX m m'=true:=by
 cases op with
 |call c =>
  simp only [okOp] at h
  split at h
  ·rename_i h' y g' k' m' hc ha
   simp only [Bool.and_eq_true,beq_iff_eq] at h
   obtain ⟨⟨⟨⟨rfl,h1⟩,h2⟩,h3⟩,h4⟩:=h
   exact ⟨c,y,g',k',m',rfl,hc,by rw [<- ha],h1,h2,h3,h4⟩
  ·cases h
 |_=>simp [okOp] at h
theorem at2_single {k m:V} {i j:Nat} {c:V} (h:at2 [[k,m]] i j=some c):i=0/\((j=0/\c=k)\/(j=1/\c=m)):=by
 cases i with
 |zero =>
  refine ⟨rfl,?_⟩
  cases j with
  |zero=>simp [at2] at h; exact .inl ⟨rfl,h.symm⟩
  |succ j =>
   cases j with
   |zero=>simp [at2] at h; exact .inr ⟨rfl,h.symm⟩
   |succ j=>simp [at2] at h
 |succ i=>simp [at2] at h
theorem snd_mput {f:FuncId} {x g k m:X}:Snd P (.mput f x g k m):=by
 intro E n C st a o d K next Q hinv hok hd h hn _
 obtain ⟨c,y,g',k',m',hop,hc,ha,hx,hg,hk,hm⟩:=okOp_mput hok
 simp only [eff] at h
 split at h
 rotate_left
 ·exact h.elim
 rename_i r gi ki mi ex eg ek em
 split at h
 rotate_left
 ·exact h.elim
 rename_i ks vs hh
 split at h
 rotate_left
 ·exact h.elim
 rename_i rows hrows
 obtain ⟨⟨hcall,hput⟩,hlike,hbd,hK⟩:=h
 have hX:=hinv.ev hx
 rw [ex] at hX
 have hG:=hinv.ev hg
 rw [eg] at hG
 have hKk:=hinv.ev hk
 rw [ek] at hKk
 have hM:=hinv.ev hm
 rw [em] at hM
 obtain ⟨L,hu,hC,hl,⟨clock,ents,g1,g2,g3,g4,g5⟩,g6,g7⟩:=hinv.map hh hX
 have hlt:L.blk < C.w.heap.size:=(Array.getElem?_eq_some_iff.1 g1).1
 have hkeys:∀ e∈ents.toList,∃ q,e.key=.int .i64 q:=fun e he=>by
  obtain ⟨j,hj⟩:=mem_get he
  have hjl:j < ks.length:=by
   have:=(List.getElem?_eq_some_iff.1 hj).1
   simpa [g2] using this
  obtain ⟨_,e',he',hR⟩:=g4 j ks[j] (by simp [hjl])
  rw [Array.getElem?_toList] at hj
  rw [he'] at hj; cases hj
  have hl1:=hlike _ (List.getElem_mem hjl)
  generalize ks[j]=kk at hl1 hR
  generalize e.key=ek at hR
  cases kk <;> simp [V.keyLike] at hl1
  cases hR
  subst hl1
  exact ⟨_,rfl⟩
 have hgl:(V.int .i64 0).keyLike (.int .i64 gi)=true:=rfl
 have hidx:=midx_spec (C:=C) hgl (R.int .i64 gi) ks ents.toList (by simpa using g2) hlike (fun j x hj=>by
  obtain ⟨_,e,he,hR⟩:=g4 j x hj
  exact ⟨e,by simpa using he,hR⟩)
 have hrun:(execOp a.eval o).run P C.w=.ok (.enter f #[.map (some L.blk),.int .i64 gi,.int .i64 ki,.int .i64 mi]) C.w:=by
  have:=run_callFunc hcall #[.map (some L.blk),.int .i64 gi,.int .i64 ki,.int .i64 mi] C.w
  have h0:a.eval (.func f)=.func (.func f) #[] #[]:=rfl
  simp [execOp,hop,resolve,hc,ha,Deferred.ofValue,h0,hu,R_int hG,R_int hKk,R_int hM,invoke,this]
 unfold Oper.wp
 rw [hrun]
 rcases hidx with ⟨m1,m2⟩|⟨q,en,m1,m2,m3,m4⟩
 ·-- nothing stands there
  have hr0:rows=[]:=by simpa [mfind,m1,rows2,eq_comm] using hrows
  subst hr0
  rw [show ∀ v,mput (.int .i64 gi) v ks vs=(ks ++ [.int .i64 gi],vs ++ [v]) from fun v=>by simp [mput,m1]] at hK
  refine Calls.mono ((hput C.w L.blk clock ents gi ki mi g1 hkeys).1 m2) ?_
  rintro e w' ⟨⟨v,rfl⟩,b,cap,cur,t,p1,p2,p3,p4,p5,p6,p7,p8,p9,p10,p11,p12,p13,p14⟩
  have hI := hinv.mapWorld hC hl (w':=w') (F':=fun b' off=>C.F b' off\/(b'=b/\off < 2)) (own':=upd C.own b (some (r,ents.size)))
   (ks':=ks ++ [.int .i64 gi]) (vs':=vs ++ [.own 2 ([] ++ [[.int .i64 ki,.int .i64 mi]])]) (fun i=>i=b) p10 p11 p12 p13
   (fun i hi hne _=>p14 i hi hne) (fun i hi hlt=>absurd hlt (by subst hi; omega)) (fun _ _ h=>.inl h) (fun b' off hf=>by
    rcases hf with hf|⟨rfl,_⟩
    ·exact .inl hf
    ·exact .inr ⟨rfl,(Array.getElem?_eq_some_iff.1 p5).1⟩) (fun b' hb'=>by simp [upd,show b'≠b by omega]) (fun hle=>by
    refine mapOk_push (clock':=clock+1) (en:={ key:=.int .i64 gi,val:=.slice (some ⟨b,0,none⟩) 1 cap,born:=clock }) hle p9 g2 g3 g4 g5 ⟨rfl,.int _ _⟩ ?_ (fun j v u hj hE=>hE.mono1 hle fun b' hb' hFb _=>?_) g6 ⟨fun off hf=>?_,g7.2⟩
    ·refine ⟨b,cap,cur,t,fun i j=>cur.getD (i * 2+j) undef,rfl,by simp,by omega,by simpa using p3,p4,by simp,p5,p6,fun i j c' hij=>?_,by have:=hinv.frame.size; omega,hinv.gnew b (by have:=hinv.frame.size; omega),by simp [upd],fun off ho hf=>?_⟩
     ·obtain ⟨rfl,hj⟩:=at2_single hij
      rcases hj with ⟨rfl,rfl⟩|⟨rfl,rfl⟩
      ·have e0:cur.getD (0 * 2+0) undef=.int .i64 ki:=by simp [Array.getD_eq_getD_getElem?,p7]
       dsimp only
       rw [e0]
       exact ⟨by simpa using p7,rfl,.inr ⟨rfl,by omega⟩,rfl,.int _ _⟩
      ·have e0:cur.getD (0 * 2+1) undef=.int .i64 mi:=by simp [Array.getD_eq_getD_getElem?,p8]
       dsimp only
       rw [e0]
       exact ⟨by simpa using p8,rfl,.inr ⟨rfl,by omega⟩,rfl,.int _ _⟩
     ·rcases hf with hf|⟨_,hf⟩
      ·have:=hinv.fin b off hf; omega
      ·simp at ho; omega
    ·have hb2:=hinv.fin b' 0 hFb
     have hne:b'≠b:=by omega
     exact ⟨by simp [upd,hne],p14 b' hb2 fun e=>g7.1 0 (e ▸ hFb),fun off hf=>hf.resolve_right fun hq=>hne hq.1⟩
    ·rcases hf with hf|⟨hf,_⟩
     ·exact g7.1 off hf
     ·exact p2 hf.symm)
  exact hn _ _ _ (hI.put hd (.undef v)) hK
 ·-- a slice stands there
  have hq:ents[q]?=some en:=by simpa using m2
  have hqs:q < vs.length:=by have:=(Array.getElem?_eq_some_iff.1 hq).1; omega
  obtain ⟨en',he',hent⟩:=g5 q vs[q] (by simp [hqs])
  rw [hq] at he'; cases he'
  have hfind:mfind (.int .i64 gi) ks vs=some vs[q]:=by simp [mfind,m1,hqs]
  rw [hfind] at hrows
  have hvq:vs[q]=.own 2 rows:=by
   generalize vs[q]=v at hrows
   cases v <;> simp [rows2] at hrows
   obtain ⟨rfl,rfl⟩:=hrows; rfl
  rw [hvq] at hent
  rw [show ∀ v,mput (.int .i64 gi) v ks vs=(ks.set q (.int .i64 gi),vs.set q v) from fun v=>by simp [mput,m1]] at hK
  obtain ⟨b,cap,cur,t,gg,h1,h2,h3,h4,h5,h6,h7,h8,h9,h10,h11,h12,h13⟩:=hent
  obtain ⟨c0,hc0⟩:=row_first h2 h3 h6
  have hF0:=(h9 0 0 c0 hc0).2.2.1
  simp only [Nat.zero_mul,Nat.zero_add] at hF0
  have hbL:b≠L.blk:=fun e=>g7.1 0 (e ▸ hF0)
  have hblt:=hinv.fin b 0 hF0
  have hpos:0 < rows.length:=List.length_pos_iff.2 h2
  refine Calls.mono ((hput C.w L.blk clock ents gi ki mi g1 hkeys).2 q b rows.length cap en cur t hq m3 (fun j e' hj he'=>m4 j e' hj (by simpa using he')) h1 hbL hpos h4 h5 hbd h7 h8 (fun j hj=>?_)) ?_
  ·have hdm:j / 2 * 2+j % 2=j:=by omega
   have hi:j / 2 < rows.length:=by omega
   have hrl:(rows[j / 2]).length=2:=h6 _ (List.getElem_mem hi)
   have:=h9 (j / 2) (j % 2) (rows[j / 2])[j % 2] (by simp [at2,hi,show j % 2 < (rows[j / 2]).length by omega])
   rw [hdm] at this
   rw [Array.getD_eq_getD_getElem?,this.1]
   exact this.2.1
  rintro e w' ⟨⟨v,rfl⟩,b',cap',cur',t',p0,p2,p3,p4,p5,p6,p7,p8,p9,p10,p11,p12,p13,p14,p15⟩
  have hI := hinv.mapWorld hC hl (w':=w') (F':=fun b2 off=>C.F b2 off\/(b2=b'/\off < (rows.length+1) * 2)) (own':=upd C.own b' (some (r,q)))
   (ks':=ks.set q (.int .i64 gi)) (vs':=vs.set q (.own 2 (rows ++ [[.int .i64 ki,.int .i64 mi]]))) (fun i=>i=b') p11 p12 p13 p14
   (fun i hi hne hnc=>by
    by_cases e:i=b
    ·subst e
     rcases p0 with ⟨e,_⟩|⟨_,e⟩
     ·exact absurd e.symm hnc
     ·exact e
    ·exact p15 i hi hne e)
   (fun i hi hlt=>by
    subst hi
    rcases p0 with ⟨rfl,_,_,_⟩|⟨hge,_⟩
    ·refine ⟨hF0,h11,⟨q,h12⟩,h10,fun off hf=>?_,fun o ho=>by rw [h7] at ho; cases ho; exact id⟩
     rw [cell_of_row _ _ _ _ _ _ p5,cell_of_row _ _ _ _ _ _ h7]
     exact p7 off (Nat.lt_of_not_le fun ho=>h13 off ho hf)
    ·omega)
   (fun _ _ h=>.inl h) (fun b2 off hf=>by
    rcases hf with hf|⟨rfl,_⟩
    ·exact .inl hf
    ·exact .inr ⟨rfl,(Array.getElem?_eq_some_iff.1 p5).1⟩)
   (fun b2 hb2=>by
    by_cases e:b2=b'
    ·subst e
     rcases p0 with ⟨rfl,_⟩|⟨hge,_⟩
     ·simp [upd,h12]
     ·omega
    ·simp [upd,e]) (fun hle=>by
    refine mapOk_set (f:=fun e=>{ e with key:=.int .i64 gi,val:=.slice (some ⟨b',0,none⟩) (rows.length+1) cap' }) hle p10 g2 g3 g4 g5 hq ⟨rfl,.int _ _⟩ ?_ (fun j v u hj hE=>hE.mono1 hle fun b2 hb2 hFb _=>?_) g6 ⟨fun off hf=>?_,g7.2⟩
    ·have hGb:C.G b':=by
      rcases p0 with ⟨rfl,_⟩|⟨hge,_⟩
      ·exact h11
      ·exact hinv.gnew b' (Nat.le_trans hinv.frame.size hge)
     refine ⟨b',cap',cur',t',fun i j=>if i < rows.length then gg i j else cur'.getD (i * 2+j) undef,by simp,by simp,by omega,by simpa using p3,p4,?_,p5,p6,fun i j c' hij=>?_,?_,hGb,by simp [upd],fun off ho hf=>?_⟩
     ·intro row hrow
      rcases List.mem_append.1 hrow with hrow|hrow
      ·exact h6 row hrow
      ·simp at hrow; subst hrow; rfl
     ·rcases at2_append hij with ⟨hi,hc'⟩|⟨hi,hc'⟩
      ·obtain ⟨a1,a2,a3,a4,a5⟩:=h9 i j c' hc'
       obtain ⟨hi',hj'⟩:=at2_lt hc'
       have hjl:j < 2:=by
        have:=(List.getElem?_eq_some_iff.1 hj').1
        rw [h6 _ (List.getElem_mem hi')] at this; exact this
       simp only [hi,if_true]
       exact ⟨(p7 (i * 2+j) (by omega)).trans a1,a2,.inr ⟨trivial,by omega⟩,a4,a5.mono hle⟩
      ·obtain ⟨e0,hj⟩:=at2_single hc'
       have hi0:i=rows.length:=by omega
       subst hi0
       simp only [Nat.lt_irrefl,if_false]
       rcases hj with ⟨rfl,rfl⟩|⟨rfl,rfl⟩
       ·have e1:cur'.getD (rows.length * 2+0) undef=.int .i64 ki:=by simp [Array.getD_eq_getD_getElem?,p8]
        rw [e1]
        exact ⟨by simpa using p8,rfl,.inr ⟨trivial,by omega⟩,rfl,.int _ _⟩
       ·have e1:cur'.getD (rows.length * 2+1) undef=.int .i64 mi:=by simp [Array.getD_eq_getD_getElem?,p9]
        rw [e1]
        exact ⟨by simpa using p9,rfl,.inr ⟨trivial,by omega⟩,rfl,.int _ _⟩
     ·rcases p0 with ⟨rfl,_⟩|⟨hge,_⟩
      ·exact h10
      ·exact Nat.le_trans hinv.frame.size hge
     ·simp only [List.length_append,List.length_singleton] at ho
      rcases hf with hf|⟨_,hf⟩
      ·rcases p0 with ⟨rfl,_⟩|⟨hge,_⟩
       ·exact h13 off (by omega) hf
       ·have:=hinv.fin b' off hf; omega
      ·omega
    ·have hne:b2≠b:=fun e=>by subst e; rw [h12] at hb2; simp at hb2; exact hj hb2.symm
     have hlt2:=hinv.fin b2 0 hFb
     have hne':b2≠b':=fun e=>by
      subst e
      rcases p0 with ⟨e,_⟩|⟨hge,_⟩
      ·exact hne e
      ·omega
     exact ⟨by simp [upd,hne'],p15 b2 hlt2 (fun e=>g7.1 0 (e ▸ hFb)) hne,fun off hf=>hf.resolve_right fun hq=>hne' hq.1⟩
    ·rcases hf with hf|⟨hf,_⟩
     ·exact g7.1 off hf
     ·exact p2 hf.symm)
  exact hn _ _ _ (hI.put hd (.undef v)) hK
end Go.Ab

namespace Go.Ab
open Go
variable {P:Program}
theorem snd_cut {s:Nat} {x hi:X} {mode:Option Nat}:Snd P (.cut s x hi mode):=by
 intro E n C st a o d K next Q hinv hok hd h hn _
 have hok':okOp P (.slice s x none (some hi)) o.op=true:=by rw [<- hok]; cases o.op <;> rfl
 obtain ⟨t,y,l',m',e,hop,hu,hs,hx,hlo,hhi⟩:=okOp_slice hok'
 obtain ⟨ii,hii,hsz⟩:=szOk_spec hs
 have hX:=hinv.ev hx
 simp only [eff] at h
 split at h
 ·rename_i r i0 m k z ex ez
  rw [ex] at hX
  split at h
  ·rename_i s' rs hh
   obtain ⟨rfl,rfl,hm,h0,h1,hk⟩:=h
   have bl:=bounds_of (dflt:=0) (k:=.i64) (m:=0) hinv hlo rfl
   have bh:=bounds_of (dflt:=m) (k:=k) (m:=z) hinv hhi ez
   have hrun:∀ (ao:Option Addr) (cap:Nat),a.eval y=.slice ao m cap->m<=cap->(execOp a.eval o).run P C.w=.ok (.value (.slice (if cap=0 then ao else ao.map (·.add 0)) z.toNat cap)) C.w:=fun ao cap hp hle=>by
    have hb:=run_sliceBounds (P:=P) (isSlice:=true) hle bl bh (Int.le_refl 0) h0 (by omega) C.w
    simp [execOp,hop,hp,Instr.sliceAt,run_underlying hu,Instr.slice,hb,sizeOf,typeInfo,hii]
   obtain ⟨C1,g1,w1,F1,G1,loc1⟩:=hinv.kills [r]
   have hdead:((st.kills [r]).heap r).isDead=true:=by simp [St.kills,St.killP,inl,AO.isDead]
   have hlen:(rs.take z.toNat).length=z.toNat:=by simp; omega
   have hk':newSl s' (rs.take z.toNat) mode d (st.kills [r]) K:=by
    cases mode with
    |none=>exact hk
    |some r' =>
     obtain ⟨rfl,hk⟩:=hk
     refine ⟨hdead,?_⟩
     rw [hlen]; exact hk
   have zero:∀ ao,(∀ x,ao=some x->x.spot=none)->a.eval y=.slice ao 0 0->m=0->o.wp P a C.w next Q:=fun ao hao hev h0m=>by
    subst h0m
    have hz:z.toNat=0:=by omega
    rw [hz,List.take_zero] at hk'
    obtain ⟨C',st',v,q1,q2,q3,q4⟩:=g1.mkSlZ ao hao hk'
    have:=hrun ao 0 hev (Nat.le_refl _)
    rw [if_pos rfl,hz] at this
    rw [<- w1,<- q2] at this
    rw [<- w1,<- q2]
    exact wp_value this (hn C' _ _ (q1.put hd q3) q4)
   have hhC:=hh
   rw [<- hinv.heap] at hhC
   generalize hev:a.eval y=u at hX
   cases hX with
   |sref _ _ _ s2 rs2 L b1 b2 b3 =>
    rw [hhC] at b1; cases b1
    subst hm
    have ho:=hinv.objs r
    unfold ObjOk at ho
    rw [hhC] at ho
    rcases ho with ⟨_,ho⟩|⟨L',hl',q0,q1,q2,q3,⟨cur,e',g,hb',hcs,hcl⟩,hw,hG⟩
    ·rw [b2] at ho; cases ho
    rw [b2] at hl'; cases hl'
    have halive:∀ r',(C1.heap r').isDead=false->r'≠r/\(C.heap r').isDead=false:=by
     intro r' hr'
     rw [g1.heap] at hr'
     rw [hinv.heap]
     by_cases er:r'=r
     ·subst er; rw [hdead] at hr'; cases hr'
     ·refine ⟨er,?_⟩
      simp only [St.kills,St.killP,inl,Bool.or_false,beq_iff_eq,er,if_false] at hr'
      cases hq:st.heap r' with
      |dead=>rw [hq] at hr'; simp [AO.kill,AO.isDead] at hr'
      |_=>rfl
    have hfree:Free E C1 L.blk:=⟨fun off=>by rw [F1]; exact (hw off).1,by rw [G1]; exact hG,fun off=>(hw off).2,fun r' L' k1 k2 k3=>by
     obtain ⟨n1,n2⟩:=halive r' k2
     rw [loc1] at k1
     exact n1 (hinv.inj r' r L' L k1 b2 n2 (by rw [hhC]; rfl) k3)⟩
    have hat:∀ i j c,at2 (rs.take z.toNat) i j=some c->at2 rs i j=some c:=fun i j c hij=>by
     have:=at2_cut (rows:=rs) (l:=0) (h:=z.toNat) (by rw [List.drop_zero]; exact hij)
     rwa [Nat.zero_add] at this
    have hown:OwnAt C1 L.blk L.cap s' (rs.take z.toNat):=⟨by rw [hlen]; omega,q2,fun r hr=>q3 r (List.take_subset _ _ hr),cur,e',g,by rw [w1]; exact hb',hcs,fun i j c hij=>by
     obtain ⟨a1,a2,a3,a4⟩:=hcl i j c (hat i j c hij)
     exact ⟨a1,a2,a3,a4.of_closed (fun b off hf=>⟨by rw [F1]; exact hf,by rw [w1]⟩) (fun b hb=>by rw [G1]; exact hb) a3⟩⟩
    by_cases hcap:L.cap=0
    ·have hl0:rs.length=0:=by omega
     exact zero (some ⟨L.blk,0 * s',none⟩) (fun x hx=>by cases hx; rfl) (by rw [hev,hl0,hcap]) hl0
    obtain ⟨C',st',v,t1,t2,t3,t4⟩:=g1.take hfree hown hk'
    have:=hrun (some ⟨L.blk,0 * s',none⟩) (L.cap - 0) hev (by omega)
    rw [hlen] at t3
    have hne:L.cap - 0≠0:=by omega
    rw [if_neg hne] at this
    simp only [Option.map_some,Nat.zero_mul,Nat.sub_zero] at this
    have hadd:(⟨L.blk,0,none⟩ : Addr).add 0=⟨L.blk,0,none⟩:=by simp [Addr.add]
    rw [hadd,<- w1,<- t2] at this
    rw [<- w1,<- t2]
    exact wp_value this (hn C' _ _ (t1.put hd t3) t4)
   |srefNil _ _ b1 b2=>exact zero none (by simp) hev rfl
   |srefZ _ _ s2 rs2 b off b1 b2=>exact zero (some ⟨b,off,none⟩) (fun x hx=>by cases hx; rfl) hev rfl
  ·exact h.elim
 ·exact h.elim
end Go.Ab

namespace Go.Ab
open Go
variable {P:Program}
theorem okOp_clr {s:Nat} {z:List V} {x:X} {op:Op} (h:okOp P (.clr s z x) op=true) :
  ∃
   c y t e i u,op=.call c/\c.callee=.builtin .clear/\c.args=#[y]/\c.argTypes=#[t]/\P.underlying t=some (.slice e)/\P.info? e=some i/\i.size=s/\0 < s/\i.zero=some u/\zOk z u.cells.toList=true/\z.length=s/\V.closedL z=true /\
   (∀ v∈u.cells.toList,v.oneCell'=true)/\okX x y=true:=by
 cases op with
 |call c =>
  simp only [okOp] at h
  split at h
  ·rename_i y t h1 h2 h3
   simp only [Bool.and_eq_true] at h
   obtain ⟨h,hx⟩:=h
   split at h
   ·rename_i e hu
    cases hi:P.info? e with
    |none=>simp [hi] at h
    |some i =>
     simp only [hi,Option.any_some,Bool.and_eq_true,beq_iff_eq,decide_eq_true_eq] at h
     obtain ⟨⟨h4,h5⟩,h6⟩:=h
     split at h6
     ·rename_i u hz
      simp only [Bool.and_eq_true,beq_iff_eq] at h6
      obtain ⟨⟨⟨a1,a2⟩,a3⟩,a4⟩:=h6
      exact ⟨c,y,t,e,i,u,rfl,h1,Array.toList_inj.1 (by simpa using h2),Array.toList_inj.1 (by simpa using h3),hu,hi,h4,h5,hz,a1,a2,a3,fun v hv=>by
       have:=Array.all_eq_true'.1 a4 v (by simpa using hv)
       exact this,hx⟩
     ·cases h6
   ·cases h
  ·cases h
 |_=>simp [okOp] at h
theorem clearR_len {z:List V} {i n:Nat} {rs:List (List V)} (h:i+n<=rs.length):(clearR z i n rs).length=rs.length:=by
 unfold clearR; simp; omega
theorem clearR_zero {z:List V} {i:Nat} {rs:List (List V)}:clearR z i 0 rs=rs:=by
 unfold clearR; simp
theorem at2_clear {z:List V} {i n:Nat} {rs:List (List V)} (hn:i+n<=rs.length) {k j:Nat} {c:V} (h:at2 (clearR z i n rs) k j=some c):(i<=k/\k < i+n/\z[j]?=some c)\/(¬ (i<=k/\k < i+n)/\at2 rs k j=some c):=by
 unfold at2 clearR at h
 have hl:(rs.take i).length=i:=by simp; omega
 by_cases h1:k < i
 ·rw [List.append_assoc,List.getElem?_append_left (by omega),List.getElem?_take,if_pos h1] at h
  exact .inr ⟨by omega,h⟩
 ·by_cases h2:k < i+n
  ·rw [List.append_assoc,List.getElem?_append_right (by omega),hl,List.getElem?_append_left (by simp; omega),List.getElem?_replicate,if_pos (by omega)] at h
   exact .inl ⟨by omega,h2,h⟩
  ·rw [List.getElem?_append_right (by simp; omega)] at h
   simp only [List.length_append,hl,List.length_replicate,List.getElem?_drop] at h
   rw [show i+n+(k - (i+n))=k by omega] at h
   exact .inr ⟨by omega,h⟩
theorem zeroCells_get {u:Array Value} {n s:Nat} (hs:u.size=s) (h0:0 < s):(Builtin.zeroCells u n).toList.length=n * s/\∀ i j,i < n->j < s->(Builtin.zeroCells u n)[i * s+j]?=u[j]?:=by
 subst hs
 refine ⟨by simp [Builtin.zeroCells],fun i j hi hj=>?_⟩
 have hlt:i * u.size+j < n * u.size:=by
  have:i * u.size+u.size<=n * u.size:=by rw [<- Nat.succ_mul]; exact Nat.mul_le_mul_right _ hi
  omega
 have hm:(i * u.size+j) % u.size=j:=by rw [Nat.add_comm,Nat.add_mul_mod_self_right,Nat.mod_eq_of_lt hj]
 simp [Builtin.zeroCells,hlt,hm,hj]
theorem snd_clr {s:Nat} {z:List V} {x:X}:Snd P (.clr s z x):=by
 intro E n C st a o d K next Q hinv hok hd h hn _
 obtain ⟨c,y,t,e,ii,u,hop,hcal,hargs,hats,hu,hii,hsz,hs0,hz,hzo,hzl,hzc,hz1,hx⟩:=okOp_clr hok
 obtain ⟨zl,zr⟩:=zOk_R hzo
 have hus:u.cells.size=s:=by rw [<- hzl,zl]; simp
 have hX:=hinv.ev hx
 simp only [eff] at h
 split at h
 ·rename_i r i m ex
  rw [ex] at hX
  split at h
  ·rename_i s' rs hh
   obtain ⟨rfl,hK⟩:=h
   rw [<- hinv.heap] at hh
   generalize hev:a.eval y=p at hX
   have hself:m=0->st.set r (.rows s' (clearR z i m rs))=st:=fun e=>by
    rw [e,clearR_zero]
    have hh':=hh
    rw [hinv.heap] at hh'
    cases st with
    |mk env heap =>
     simp only [St.set,St.mk.injEq,true_and]
     funext k
     simp only [upd]
     split
     ·rename_i ek; subst ek; exact hh'.symm
     ·rfl
   have zero:∀ ao cap,m=0->a.eval y=.slice ao 0 cap->o.wp P a C.w next Q:=fun ao cap hm hev=>by
    have hrun:(execOp a.eval o).run P C.w=.ok (.value (.tuple #[])) C.w:=by
     cases ao <;> simp [execOp,hop,resolve,invoke,builtin,hcal,hargs,hats,hev,Builtin.clear_,run_underlying hu]
    rw [hself hm] at hK
    exact wp_value hrun (hn _ _ _ (hinv.put hd (.tup [] [] rfl (by simp))) hK)
   cases hX with
   |sref _ _ _ s2 rs2 L g1 g2 g3 =>
    rw [hh] at g1; cases g1
    by_cases hm:m=0
    ·subst hm; exact zero _ _ rfl hev
    have ho:=hinv.objs r
    unfold ObjOk at ho
    rw [hh] at ho
    rcases ho with ⟨_,ho⟩|⟨L',hl',q0,q1,q2,q3,⟨cur,e2,g,hb,hcs,hc⟩,hw,hG⟩
    ·rw [g2] at ho; cases ho
    rw [g2] at hl'; cases hl'
    obtain ⟨zc1,zc2⟩:=zeroCells_get (n:=m) hus hs0
    have hmul:i * s'+m * s'<=L.cap * s':=by rw [<- Nat.add_mul]; exact Nat.mul_le_mul_right _ (by omega)
    have hfit:i * s'+0+(Builtin.zeroCells u.cells m).toList.length<=cur.size:=by omega
    have hone:∀ v∈(Builtin.zeroCells u.cells m).toList,v.oneCell'=true:=fun v hv=>by
     simp only [Builtin.zeroCells,Array.toList_map,List.mem_map,Array.toList_range,List.mem_range] at hv
     obtain ⟨q,hq,rfl⟩:=hv
     have hlt:q % u.cells.size < u.cells.size:=Nat.mod_lt _ (by omega)
     have:u.cells[q % u.cells.size]! = u.cells[q % u.cells.size]:=by simp [hlt]
     rw [this]; exact hz1 _ (by simp)
    have hst:=run_storeCells_at P L.blk (i * s') e2 (Builtin.zeroCells u.cells m).toList 0 cur C.w hb hfit hone
    simp only [Nat.add_zero,zc1] at hst
    obtain ⟨sp1,sp2⟩:=splice_get (vs:=(Builtin.zeroCells u.cells m).toList) (o:=i * s') zc1 (show i * s'+m * s'<=cur.size by rw [hcs]; exact hmul)
    have hrun:(execOp a.eval o).run P C.w=.ok (.value (.tuple #[])) (C.w.setRow L.blk (cur.toList.take (i * s') ++ (Builtin.zeroCells u.cells m).toList ++ cur.toList.drop (i * s'+m * s')).toArray):=by
     obtain ⟨m',rfl⟩ : ∃ m',m=m'+1:=⟨m - 1,by omega⟩
     simp [execOp,hop,resolve,invoke,builtin,hcal,hargs,hats,hev,Builtin.clear_,run_underlying hu,zeroValue,typeInfo,hii,hz,hst]
    generalize (cur.toList.take (i * s') ++ (Builtin.zeroCells u.cells m).toList ++ cur.toList.drop (i * s'+m * s')).toArray=cur' at sp1 sp2 hrun
    have hI := hinv.write (o':=.rows s' (clearR z i m rs)) g2 (by rw [hh]; rfl) hb sp1 (fun j _=>hw j) (.inr ⟨s',rs,_,hh,rfl,clearR_len g3⟩) (fun hle=>by
      unfold ObjOk
      simp only [upd,if_true]
      refine .inr ⟨L,g2,q0,by rw [clearR_len g3]; exact q1,q2,fun row hrow'=>?_,⟨cur',e2,fun i' j=>cur'.getD (i' * s'+j) undef,setRow_heap _ _ _ _ _ _ hb,sp1.trans hcs,fun i' j c hij=>?_⟩,hw,hG⟩
      ·unfold clearR at hrow'
       simp only [List.mem_append,List.mem_replicate] at hrow'
       rcases hrow' with (h|h)|h
       ·exact q3 _ (List.mem_of_mem_take h)
       ·rw [h.2]; exact hzl
       ·exact q3 _ (List.mem_of_mem_drop h)
      ·have main:∃ w,cur'[i' * s'+j]?=some w/\w.oneCell'=true/\c.closed=true/\R C c w:=by
        rcases at2_clear g3 hij with ⟨b1,b2,hj⟩|⟨hne,hj⟩
        ·obtain ⟨v,hv,hr⟩:=zr j c hj
         have hjs:j < s':=by rw [<- hzl]; exact (List.getElem?_eq_some_iff.1 hj).1
         have e1:i' * s'+j=i * s'+((i' - i) * s'+j):=by rw [<- Nat.add_assoc,<- Nat.add_mul]; congr 2; omega
         have hlt:(i' - i) * s'+j < m * s':=by
          have:(i' - i) * s'+s'<=m * s':=by rw [<- Nat.succ_mul]; exact Nat.mul_le_mul_right _ (by omega)
          omega
         refine ⟨v,?_,hz1 v (List.mem_of_getElem? hv),closedL_all hzc j c hj,hr _⟩
         rw [sp2,if_pos ⟨by omega,by omega⟩,e1,Nat.add_sub_cancel_left,Array.getElem?_toList,zc2 _ _ (by omega) hjs]
         rw [Array.getElem?_toList] at hv; exact hv
        ·obtain ⟨w1,w2,w3,w4⟩:=hc i' j c hj
         refine ⟨_,?_,w2,w3,w4⟩
         obtain ⟨hi',hj'⟩:=at2_lt hj
         have hjs:j < s':=by
          rw [<- q3 _ (List.getElem_mem hi')]
          exact (List.getElem?_eq_some_iff.1 hj').1
         rw [sp2,if_neg ?_]
         ·exact w1
         ·rintro ⟨c1,c2⟩
          rcases Nat.lt_or_ge i' i with h|h
          ·have:i' * s'+s'<=i * s':=by rw [<- Nat.succ_mul]; exact Nat.mul_le_mul_right _ h
           omega
          ·have h2:i+m<=i':=by omega
           have:(i+m) * s'<=i' * s':=Nat.mul_le_mul_right _ h2
           rw [Nat.add_mul] at this
           omega
       obtain ⟨w,m1,m2,m3,m4⟩:=main
       have ee:cur'.getD (i' * s'+j) undef=w:=by
        rw [Array.getD_eq_getD_getElem?,m1]; rfl
       dsimp only
       rw [ee]
       exact ⟨m1,m2,m3,m4.mono hle⟩)
    exact wp_value hrun (hn _ _ _ (hI.put hd (.tup [] [] rfl (by simp))) hK)
   |srefNil _ _ b1 b2=>exact zero _ _ rfl hev
   |srefZ _ _ s2 rs2 b off b1 b2=>exact zero _ _ rfl hev
  ·exact h.elim
 ·exact h.elim
end Go.Ab
