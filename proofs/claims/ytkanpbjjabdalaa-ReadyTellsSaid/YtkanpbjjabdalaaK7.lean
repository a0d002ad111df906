/-
  Regions in any order: the theorem.
  A function's abstract text, whole; a tactic that steps through it.
  The abstract machine's propositions in a form that one can reckon through step by step: tests as forks, what is not plain reckoning at marked places.
  The reckoning form says what the abstract machine says: operations, regions, control.
  The walk's words, short: what is decided by arithmetic, or stands among the hypotheses, need not be said.
  A contract of the abstract machine as a call in the model: of arguments that are read alone.
  Ends of functions: what is handed back, said in one word.
  Functions to which variables and own slices are handed over: how they begin and end, lengths by a name.
-/
import Derived.Laws.BitsLemmas
import Derived.Below
import Derived.Test.YtkanpbjjabdalaaK1
import Derived.Test.YtkanpbjjabdalaaK5
import Derived.Test.YtkanpbjjabdalaaK6
set_option linter.all false
namespace Go.Ab
open Go
variable {E:Ent} {n:Sz} {C:Ctx} {st:St} {a:Act} {P:Program}
theorem R_live {v:V} {u:Value} (h:R C v u):∀ q,v.has (fun i=>i == q)=true->(C.heap q).isDead=false:=by
 have hasL_get:∀ {l:List V} {p:Nat->Bool},V.hasL p l=true->∃ (j:Nat) (c:V),l[j]?=some c/\c.has p=true:=by
  intro l p h
  induction l with
  |nil=>simp [V.hasL] at h
  |cons v l ih =>
   simp only [V.hasL,Bool.or_eq_true] at h
   rcases h with h|h
   ·exact ⟨0,v,rfl,h⟩
   ·obtain ⟨j,c,h1,h2⟩:=ih h; exact ⟨j+1,c,by simpa using h1,h2⟩
 induction h with
 |ptr r off cs L h hl=>intro q hq; simp [V.has] at hq; subst hq; rw [h]; rfl
 |rptr r i off s rs L h hl hi=>intro q hq; simp [V.has] at hq; subst hq; rw [h]; rfl
 |sref r i m s rs L h hl hi=>intro q hq; simp [V.has] at hq; subst hq; rw [h]; rfl
 |srefNil r s h hl=>intro q hq; simp [V.has] at hq; subst hq; rw [h]; rfl
 |srefZ r i s rs b off h hi=>intro q hq; simp [V.has] at hq; subst hq; rw [h]; rfl
 |mp r ks vs L h hl=>intro q hq; simp [V.has] at hq; subst hq; rw [h]; rfl
 |agg cs us hl h1 hr ih =>
  intro q hq
  obtain ⟨j,c,h2,h3⟩:=hasL_get (by simpa [V.has] using hq)
  exact ih j c h2 q h3
 |tup cs us hl hr ih =>
  intro q hq
  obtain ⟨j,c,h2,h3⟩:=hasL_get (by simpa [V.has] using hq)
  exact ih j c h2 q h3
 |fn f first caps us ws hl hl' hr hr' ih ih' =>
  intro q hq
  simp only [V.has,Bool.or_eq_true] at hq
  rcases hq with hq|hq
  ·obtain ⟨j,c,h2,h3⟩:=hasL_get hq; exact ih j c h2 q h3
  ·obtain ⟨j,c,h2,h3⟩:=hasL_get hq; exact ih' j c h2 q h3
 |_=>intro q hq; simp [V.has] at hq
theorem Inv.ground (h:Inv E n C st a) {st':St} (hs:∀ r,(st.heap r).isDead=false->st'.heap r=st.heap r) {v:V} {r:Nat} (hr:Reach st' v r):(∀ q,v.has (fun i=>i == q)=true->(st.heap q).isDead=false)->(st.heap r).isDead=false:=by
 induction hr with
 |here h1=>intro hv; exact hv _ h1
 |box h1 hq hc t ih =>
  rename_i v q r cs c
  intro hv
  have hl:=hv q h1
  rw [hs q hl] at hq
  refine ih fun q' hq'=>?_
  have ho:=h.objs q
  unfold ObjOk at ho
  rw [h.heap,hq] at ho
  obtain ⟨L,_,⟨cur,e,g,_,g3⟩,_⟩:=ho
  obtain ⟨j,hj⟩:=List.getElem?_of_mem hc
  have:=R_live (g3 j c hj).2.2 q' hq'
  rw [h.heap] at this; exact this
theorem Inv.ev_live (h:Inv E n C st a) {x:X} (hx:x.okK=true):∀ q,(x.ev st).has (fun i=>i == q)=true->(st.heap q).isDead=false:=by
 intro q hq
 cases x with
 |t k=>have:=R_live (h.env k) q hq; rw [h.heap] at this; exact this
 |k v =>
  simp only [X.ev] at hq
  cases v with
  |undef=>simp [V.has] at hq
  |_=>rw [closed_has _ _ hx] at hq; cases hq
theorem ahead (h:Inv E n C st a) {pre post:List (Op'×Nat)} {i:Op'×Nat} {K:St->Prop} (hk:wpOpsD P (pre ++ i::post) st K) (hi:okClass i.1.op i.2=true) (hix:∀ x∈i.1.op.xs,x.okK=true)
  (hp:∀ x∈pre,okClass x.1.op x.2=true/\okPair (nrm x.2) (nrm i.2)=true/\apartO x.1 i.1=true):effG P i.1 st fun s=>wpOpsD P (pre ++ post) s K:=by
 by_cases hpre:pre=[]
 ·subst hpre
  exact hk.2
 ·have hcls:∀ x∈pre,_:=fun x hx=>okPair_spec (hp x hx).2.1
  obtain ⟨x0,hx0⟩:=List.exists_mem_of_ne_nil pre hpre
  have hc:nrm i.2=0\/nrm i.2=1\/nrm i.2=2:=by have:=hcls x0 hx0; omega
  obtain ⟨st',hk',hs⟩:=pre_run pre (fun x hx=>⟨by have:=hcls x hx; omega,(hp x hx).1⟩) hk
  obtain ⟨v,news,h1,h2⟩:=effG_does hc (okClass_nrm hi) (hk'.1.quiet hi) hk'.2
  have henv:∀ t∈i.1.looks,st.env t=st'.env t:=fun t ht=>(hs.env fun x hx e=>(apartO_spec (hp x hx).2.2).1 t e ht).symm
  have hheap:nrm i.2=1->∀ r,(st.heap r).isDead=false->st'.heap r=st.heap r:=fun hi1 r hr=>hs.heap (fun x hx=>by have:=hcls x hx; omega) hr
  refine h2.again st ⟨henv,fun hi1 x hx r hr hl=>?_,fun hi2=>(hs.heap0 fun x hx=>by have:=hcls x hx; omega).symm⟩ (fun _ _ _ _=>trivial) (fun hi1 r _ hd=>?_) _ ?_
  ·have ee:x.ev st'=x.ev st:=(ev_same henv x hx).symm
   rw [ee] at hr
   have hlive:=h.ground (hheap hi1) hr (h.ev_live (hix x hx))
   exact (hheap hi1 r hlive).symm
  ·by_cases hl:(st.heap r).isDead=true
   ·exact hl
   ·have hl':(st.heap r).isDead=false:=by simpa using hl
    rw [hheap hi1 r hl',hl'] at hd; cases hd
  ·exact hs.replay (fun hi0=>h2.pure hi0) (fun hi1 y hy=>((h2.quiet hi1).1 y hy).1) (fun x hx=>(hp x hx).2) (fun hi1 y hy=>(h2.quiet hi1).2 y.1 (List.mem_map_of_mem hy)) h1
theorem ahead_hop (h:Inv E n C st a) {pre1 pre2 post:List (Op'×Nat)} {i:Op'×Nat} {K:St->Prop} (hk:wpOpsD P ((pre1 ++ pre2) ++ i::post) st K) (hi:okClass i.1.op i.2=true) (hix:∀ x∈i.1.op.xs,x.okK=true)
  (hp:∀ x∈pre1,okClass x.1.op x.2=true/\okPair (nrm x.2) (nrm i.2)=true/\apartO x.1 i.1=true) (hs:∀ x∈pre2,okClass x.1.op x.2=true/\hopOk x i=true):effG P i.1 st fun s=>wpOpsD P ((pre1 ++ pre2) ++ post) s K:=by
 rw [List.append_assoc,wpOpsD_append] at hk
 have hk':wpOpsD P (pre1 ++ i::(pre2 ++ post)) st K:=wpOpsD_append.2 (wpOpsD_mono hk fun s h'=>hops hi hs h')
 have:=ahead h hk' hi hix hp
 refine effG_mono this fun s h'=>?_
 rw [List.append_assoc]; exact h'
theorem opsD_sound {ops:Array Oper} {Q:Exit->Act->World->Prop} {K:St->Prop} (hn:∀ C' st' a',Inv E n C' st' a'->K st'->Q .normal a' C'.w) :
  ∀ (l:List (Op'×Nat)) (k:Nat) {C:Ctx} {st:St} {a:Act},okOpers P ops n (l.map (·.1)) (ops.toList.drop k)=true->Inv E n C st a->wpOpsD P l st K->Go.wpOps P ops Q (List.range' k l.length) a C.w
 |[],k,C,st,a,_,h,hk=>hn C st a h hk
 |o :: l,k,C,st,a,hok,h,hk=>by
  cases hp:ops.toList.drop k with
  |nil=>rw [hp] at hok; simp [okOpers] at hok
  |cons p ps =>
   rw [hp] at hok
   simp only [List.map_cons,okOpers,Bool.and_eq_true] at hok
   have hpk:ops[k]?=some p:=by
    have:(ops.toList.drop k)[0]?=some p:=by rw [hp]; rfl
    simpa using this
   have hps:ops.toList.drop (k+1)=ps:=by
    rw [<- List.drop_drop,hp]; rfl
   simp only [List.length_cons,List.range'_succ]
   rw [wpOps_cons]
   refine effG_sound h hpk hok.1 hk.2 fun C' st' a' h' hk'=>?_
   exact opsD_sound hn l (k+1) (by rw [hps]; exact hok.2) h' hk'
theorem okOpers_get {ops:Array Oper}:∀ {l:List Op'} {m:List Oper},okOpers P ops n l m=true->∀ (i:Nat) p,m[i]?=some p->∃ o,l[i]?=some o/\okOper P ops n o p=true
 |[],[],_,i,p,h=>by simp at h
 |[],_::_,h,_,_,_=>by simp [okOpers] at h
 |_::_,[],h,_,_,_=>by simp [okOpers] at h
 |o::l,q::m,h,i,p,hi=>by
  simp only [okOpers,Bool.and_eq_true] at h
  cases i with
  |zero=>simp at hi; subst hi; exact ⟨o,rfl,h.1⟩
  |succ i=>simpa using okOpers_get h.2 i p (by simpa using hi)
theorem mem_afterB {ops:Array Oper} {i:Nat} {o:Oper} (ho:ops[i]?=some o) {e:Nat}:e∈afterB ops i↔∃ x∈o.after,Region.binds .any x=true/\x.on=e:=by
 simp only [afterB,ho,List.mem_map,List.mem_filter]
 constructor
 ·rintro ⟨x,⟨h1,h2⟩,h3⟩; exact ⟨x,by simpa using h1,h2,h3⟩
 ·rintro ⟨x,h1,h2,h3⟩; exact ⟨x,⟨by simpa using h1,h2⟩,h3⟩
theorem takeWhile_mem {p:Nat->Bool} {x:Nat}:∀ {l:List Nat},x∈l.takeWhile p->p x=true
 |[],h=>by simp at h
 |y :: l,h=>by
  rw [List.takeWhile_cons] at h
  split at h
  ·rename_i hp
   rcases List.mem_cons.1 h with rfl|h
   ·exact hp
   ·exact takeWhile_mem h
  ·simp at h
theorem drop_sub {p h:Nat->Bool}:∀ {S U:List Nat},S.Sublist U->(U.dropWhile p).all h=true->(S.dropWhile p).all h=true:=by
 have sub:∀ {S U:List Nat},S.Sublist U->U.all h=true->S.all h=true:=fun hs hu=>List.all_eq_true.2 fun x hx=>List.all_eq_true.1 hu x (hs.subset hx)
 have dr:∀ {S:List Nat},S.all h=true->(S.dropWhile p).all h=true:=fun hs=>sub (List.dropWhile_sublist p) hs
 intro S U hs
 induction hs with
 |slnil=>exact id
 |cons a hs ih =>
  rename_i S U
  intro hu
  rw [List.dropWhile_cons] at hu
  split at hu
  ·exact ih hu
  ·simp only [List.all_cons,Bool.and_eq_true] at hu
   exact dr (sub hs hu.2)
 |cons_cons a hs ih =>
  rename_i S U
  intro hu
  rw [List.dropWhile_cons] at hu ⊢
  split at hu
  ·rename_i hp; rw [if_pos hp]; exact ih hu
  ·rename_i hp; rw [if_neg hp]; exact sub (List.Sublist.cons_cons a hs) hu
structure OkD (ops:Array Oper) (l:List (Op'×Nat)) (an:List (List Nat)):Prop where
 len:l.length=ops.size
 cls:∀ (i:Nat) o,l[i]?=some o->okClass o.1.op o.2=true/\∀ x∈o.1.op.xs,x.okK=true
 lt:∀ i,i < ops.size->∀ e∈afterB ops i,e < i
 anc:∀ i,i < ops.size->∀ x∈an.getD i [],∃ e∈afterB ops i,e=x\/x∈an.getD e []
 pair:∀ i,i < ops.size->(((List.range ops.size).filter fun x=>decide (x < i)&&!inl (an.getD i []) x).dropWhile (at2O pairO l · i)).all (at2O hopOk l · i)=true
theorem okD_spec {ops:Array Oper} {l:List (Op'×Nat)} (h:okD ops l=true):OkD ops l (ancs ops.toList):=by
 unfold okD at h
 rw [Bool.and_eq_true,Bool.and_eq_true] at h
 obtain ⟨⟨h1,h2⟩,h3⟩:=h
 rw [List.all_eq_true] at h1 h3
 have h3':=fun i hi=>by
  have:=h3 i (List.mem_range.2 hi)
  rw [Bool.and_eq_true,Bool.and_eq_true] at this
  exact this
 refine ⟨by simpa using h2,fun i o ho=>?_,fun i hi e he=>?_,fun i hi x hx=>?_,fun i hi=>(h3' i hi).2⟩
 ·have:=h1 o (List.mem_of_getElem? ho)
  simpa using this
 ·simpa using List.all_eq_true.1 (h3' i hi).1.1 e he
 ·have:=List.all_eq_true.1 (h3' i hi).1.2 x hx
  simp only [List.any_eq_true,Bool.or_eq_true,beq_iff_eq] at this
  obtain ⟨e,he,h4⟩:=this
  exact ⟨e,he,h4.imp id inl_iff.1⟩
theorem at2O_spec {f:Op'×Nat->Op'×Nat->Bool} {l:List (Op'×Nat)} {x i:Nat} (h:at2O f l x i=true):∃ ox oi,l[x]?=some ox/\l[i]?=some oi/\f ox oi=true:=by
 unfold at2O at h
 split at h
 ·rename_i a b e1 e2; exact ⟨a,b,e1,e2,h⟩
 ·cases h
theorem any_sound {ops:Array Oper} {Q:Exit->Act->World->Prop} {K:St->Prop} (hn:∀ C' st' a',Inv E n C' st' a'->K st'->Q .normal a' C'.w) {l:List (Op'×Nat)} {an:List (List Nat)} (hd:OkD ops l an)
  (hok:okOpers P ops n (l.map (·.1)) ops.toList=true):∀ (fuel:Nat) (rem:List Nat) (listed:Array Bool) {C:Ctx} {st:St} {a:Act},rem.length=fuel->rem.Sublist (List.range ops.size) ->
   (∀ j,j∈rem↔j < ops.size/\listed.getD j true=false)->(∀ j,j < ops.size->j∉rem->listed.getD j false=true)->(∀ j,j < ops.size->j∉rem->∀ x∈an.getD j [],x∉rem)->listed.size=ops.size ->
   Inv E n C st a->wpOpsD P (rem.map fun j=>l.getD j default) st K->wpAny P .any ops Q fuel listed a C.w
 |0,rem,listed,C,st,a,hl,_,hr,_,_,_,h,hk=>by
  have:rem=[]:=List.eq_nil_of_length_eq_zero hl
  subst this
  refine ⟨?_,hn C st a h hk⟩
  cases hz:Region.ready .any ops listed with
  |nil=>rfl
  |cons i is =>
   have hi:i∈Region.ready .any ops listed:=by rw [hz]; simp
   obtain ⟨h1,o,h2,_⟩:=mem_ready.1 hi
   have:=(hr i).2 ⟨(Array.getElem?_eq_some_iff.1 h2).1,h1⟩
   simp at this
 |fuel+1,rem,listed,C,st,a,hl,hsub,hr,hr',hdown,hsz,h,hk=>by
  have hsort:rem.Pairwise (· < ·):=List.Pairwise.sublist hsub List.pairwise_lt_range
  refine ⟨fun hz=>?_,fun i hi=>?_⟩
  ·-- the first is ready
   exfalso
   cases rem with
   |nil=>simp at hl
   |cons j js =>
    obtain ⟨hj1,hj2⟩:=(hr j).1 (by simp)
    have:j∈Region.ready .any ops listed:=by
     refine mem_ready.2 ⟨hj2,ops[j],by simp [hj1],fun e he hb=>?_⟩
     have hlt:=hd.lt j hj1 e.on ((mem_afterB (by simp [hj1])).2 ⟨e,he,hb,rfl⟩)
     refine hr' e.on (by omega) fun hm=>?_
     rcases List.mem_cons.1 hm with hm|hm
     ·omega
     ·have:=(List.pairwise_cons.1 hsort).1 e.on hm; omega
    rw [hz] at this; simp at this
  ·obtain ⟨h1,o,h2,h3⟩:=mem_ready.1 hi
   have hisz:=(Array.getElem?_eq_some_iff.1 h2).1
   have him:i∈rem:=(hr i).2 ⟨hisz,h1⟩
   obtain ⟨pre,post,rfl⟩:=List.append_of_mem him
   have hfresh:∀ x∈an.getD i [],x∉pre ++ i::post:=fun x hx hm=>by
    obtain ⟨e,he,h4⟩:=hd.anc i hisz x hx
    obtain ⟨ed,h5,h6,rfl⟩:=(mem_afterB h2).1 he
    have hl':=h3 ed h5 h6
    have hlt:=hd.lt i hisz _ he
    have hen:ed.on∉pre ++ i::post:=fun hm'=>by
     have:=((hr ed.on).1 hm').2
     have hs:ed.on < listed.size:=by omega
     simp [hs] at this hl'
     rw [hl'] at this; cases this
    rcases h4 with rfl|h4
    ·exact hen hm
    ·exact hdown ed.on (by omega) hen x h4 hm
   obtain ⟨oi,ho1,ho2⟩:=okOpers_get hok i o (by simpa using h2)
   obtain ⟨li,hli⟩ : ∃ li,l[i]?=some li:=⟨l[i]'(by rw [hd.len]; exact hisz),by simp⟩
   have e1:oi=li.1:=by simp [hli] at ho1; exact ho1.symm
   subst e1
   have eli:l.getD i default=li:=by simp [List.getD,hli]
   have hprelt:∀ x∈pre,x < i:=fun x hx=>(List.pairwise_append.1 hsort).2.2 x hx i (by simp)
   rw [List.map_append,List.map_cons,eli] at hk
   have hsubp:pre.Sublist ((List.range ops.size).filter fun x=>decide (x < i)&&!inl (an.getD i []) x):=by
    have f1:pre.filter (fun x=>decide (x < i)&&!inl (an.getD i []) x)=pre:=List.filter_eq_self.2 fun x hx=>by
     have h4:=hprelt x hx
     cases hin:inl (an.getD i []) x with
     |false=>simp [h4]
     |true=>exact absurd (List.mem_append_left _ hx) (hfresh x (inl_iff.1 hin))
    have f2:(i::post).filter (fun x=>decide (x < i)&&!inl (an.getD i []) x)=[]:=List.filter_eq_nil_iff.2 fun x hx=>by
     have:¬ x < i:=by
      rcases List.mem_cons.1 hx with rfl|hx
      ·omega
      ·have:=(List.pairwise_cons.1 (List.pairwise_append.1 hsort).2.1).1 x hx; omega
     simp [this]
    have e:(pre ++ i::post).filter (fun x=>decide (x < i)&&!inl (an.getD i []) x)=pre:=by rw [List.filter_append,f1,f2,List.append_nil]
    rw [<- e]; exact hsub.filter _
   have hdr:=drop_sub hsubp (hd.pair i hisz)
   have ecls:∀ j,(∃ o,l[j]?=some o)->okClass (l.getD j default).1.op (l.getD j default).2=true:=fun j ⟨o,ho⟩=>by
    have:l.getD j default=o:=by simp [List.getD,ho]
    rw [this]; exact (hd.cls j o ho).1
   have hah:effG P li.1 st fun s=>wpOpsD P ((pre.map fun j=>l.getD j default) ++ post.map fun j=>l.getD j default) s K:=by
    have esp:pre.map (fun j=>l.getD j default)=(pre.takeWhile (at2O pairO l · i)).map (fun j=>l.getD j default) ++ (pre.dropWhile (at2O pairO l · i)).map (fun j=>l.getD j default):=by
     rw [<- List.map_append,List.takeWhile_append_dropWhile]
    rw [esp] at hk ⊢
    refine ahead_hop h hk (hd.cls i li hli).1 (hd.cls i li hli).2 (fun x hx=>?_) fun x hx=>?_
    ·obtain ⟨j,hj,rfl⟩:=List.mem_map.1 hx
     obtain ⟨ox,oi,p1,p2,p3⟩:=at2O_spec (takeWhile_mem (p:=fun x=>at2O pairO l x i) hj)
     rw [hli] at p2; cases p2
     have ej:l.getD j default=ox:=by simp [List.getD,p1]
     refine ⟨ecls j ⟨ox,p1⟩,?_⟩
     rw [ej]
     unfold pairO at p3
     rwa [Bool.and_eq_true] at p3
    ·obtain ⟨j,hj,rfl⟩:=List.mem_map.1 hx
     obtain ⟨ox,oi,p1,p2,p3⟩:=at2O_spec (List.all_eq_true.1 hdr j hj)
     rw [hli] at p2; cases p2
     have ej:l.getD j default=ox:=by simp [List.getD,p1]
     refine ⟨ecls j ⟨ox,p1⟩,?_⟩
     rw [ej]; exact p3
   refine effG_sound h h2 ho2 hah fun C' st' a' h' hk'=>?_
   have hni:i∉pre ++ post:=fun hm=>by
    rcases List.mem_append.1 hm with hm|hm
    ·exact absurd (hprelt i hm) (Nat.lt_irrefl i)
    ·exact absurd ((List.pairwise_cons.1 (List.pairwise_append.1 hsort).2.1).1 i hm) (Nat.lt_irrefl i)
   have hmem:∀ j,j∈pre ++ post↔j∈pre ++ i::post/\j≠i:=fun j=>by
    simp only [List.mem_append,List.mem_cons]
    constructor
    ·intro hm
     refine ⟨hm.elim .inl (fun h=>.inr (.inr h)),fun e=>hni (by subst e; simpa using hm)⟩
    ·rintro ⟨hm|rfl|hm,hne⟩
     ·exact .inl hm
     ·exact absurd rfl hne
     ·exact .inr hm
   refine any_sound hn hd hok fuel (pre ++ post) (listed.setIfInBounds i true) (by simp at hl ⊢; omega) ((List.Sublist.append_left (List.sublist_cons_self _ _) _).trans hsub) (fun j=>?_) (fun j hj hjn=>?_) (fun j hj hjn x hx hm=>?_) (by simp [hsz]) h' (by rw [List.map_append]; exact hk')
   ·rw [hmem,hr]
    by_cases e:j=i
    ·subst e
     have hs:j < listed.size:=by omega
     simp [hs]
    ·rw [getD_set_ne true (fun e'=>e e'.symm)]
     simp [e]
   ·by_cases e:j=i
    ·subst e
     have hs:j < listed.size:=by omega
     simp [hs]
    ·rw [getD_set_ne false (fun e'=>e e'.symm)]
     exact hr' j hj fun hm=>hjn ((hmem j).2 ⟨hm,e⟩)
   ·have hm':=((hmem x).1 hm).1
    by_cases e:j=i
    ·subst e; exact hfresh x hx hm'
    ·exact hdown j hj (fun hm2=>hjn ((hmem j).2 ⟨hm2,e⟩)) x hx hm'
theorem regD (hm:P.follows .mixedOrders=true):RegD P:=by
 intro E n C st a ops id dr Q K l hn hok hD h hk
 have hd:=okD_spec hD
 cases dr with
 |false =>
  refine wp_region ?_
  rw [List.range_eq_range',<- hd.len]
  exact opsD_sound hn l 0 (by simpa using hok) h hk
 |true =>
  refine wp_region_any hm ?_
  have h':=h.ext (w':={ C.w with drawn:=C.w.drawn+1 }) (Ext.drew C.w)
  have hmap:(List.range ops.size).map (fun j=>l.getD j default)=l:=by
   apply List.ext_getElem?
   intro i
   by_cases hi:i < ops.size
   ·have hi':i < l.length:=by rw [hd.len]; exact hi
    simp [List.getElem?_range hi,List.getD,hi']
   ·rw [List.getElem?_eq_none (by simpa using hi),List.getElem?_eq_none (by rw [hd.len]; omega)]
  exact any_sound hn hd hok ops.size (List.range ops.size) (Array.replicate ops.size false) (by simp) (List.Sublist.refl _) (fun j=>by
   simp only [List.mem_range]
   constructor
   ·intro hj; exact ⟨hj,by simp [hj]⟩
   ·exact fun hj=>hj.1) (fun j hj hjn=>absurd (List.mem_range.2 hj) hjn) (fun j hj hjn=>absurd (List.mem_range.2 hj) hjn) (by simp) h' (by rw [hmap]; exact hk)
end Go.Ab

namespace Go.Ab
open Go
structure FnT where
 k:Nat
 pins:List Nat
 ns:List Nat
 rvs:List RV
 body:C
def okFn (P:Program) (fn:Func) (t:FnT):Bool :=
 match fn.body with
 |some code=>okC P ⟨fn.ntmps,t.pins,false⟩ t.body code&&okRVs P t.rvs fn.results.toList&&decide (t.k<=fn.ntmps)&&t.pins.all (fun i=>decide (i < t.k))&&nodupB t.ns
 |none=>false
def iosOk (pins:List Nat):Nat->List V->Bool
 |_,[]=>true
 |i,.io _::l=>inl pins i&&iosOk pins (i+1) l
 |i,_::l=>iosOk pins (i+1) l
theorem iosOk_get {pins:List Nat}:∀ {l:List V} {i:Nat},iosOk pins i l=true->∀ (j:Nat) cs,l[j]?=some (.io cs)->i+j∈pins
 |[],_,_,j,cs,h=>by simp at h
 |v :: l,i,h,j,cs,hj=>by
  have hrest:iosOk pins (i+1) l=true:=by
   cases v <;> simp only [iosOk,Bool.and_eq_true] at h <;> first|exact h.2|exact h
  cases j with
  |zero =>
   simp at hj; subst hj
   simp only [iosOk,Bool.and_eq_true] at h
   simpa using inl_iff.1 h.1
  |succ j =>
   have:=iosOk_get hrest j cs (by simpa using hj)
   rw [show i+(j+1)=i+1+j by omega]; exact this
theorem callsV_fn {P:Program} (hD:RegD P) {f:FuncId} {fn:Func} (hf:P.funcs[f]?=some fn) {t:FnT} (hok:okFn P fn t=true) {args:List V} {res:V} {outs:List V} {fr:Bool}
  (hl:args.length=t.k) (hio:iosOk t.pins 0 args=true) (hsh:args.map V.sh=args) (hwp:wpC P t.body (St.enter args t.ns) fun e st=>(e=.normal\/e=.ret)/\Leave args t.rvs res outs fr st) (hnm:args.all V.noMap=true):CallsV P f args res outs fr:=by
 unfold okFn at hok
 cases hb:fn.body with
 |none=>rw [hb] at hok; cases hok
 |some code =>
  rw [hb] at hok
  simp only [Bool.and_eq_true,decide_eq_true_eq,List.all_eq_true] at hok
  obtain ⟨⟨⟨⟨h1,h2⟩,h3⟩,h4⟩,h5⟩:=hok
  exact callsV_of hD hf hb h1 h2 (hl ▸ h3) (fun i hi=>by rw [hl]; exact h4 i hi) (fun i cs hi=>by simpa using iosOk_get hio i cs hi) hsh hnm (nodupB_iff h5) hwp
namespace T
def p (d:Nat) (o:O):Op':=⟨some d,o,none⟩
def q (d:Nat) (o:O) (g:Nat):Op':=⟨some d,o,some (g,false)⟩
def w (d:Nat) (o:O) (g:Nat):Op':=⟨some d,o,some (g,true)⟩
def u (o:O):Op':=⟨none,o,none⟩
def i (n:Int):X:=.k (.int .i64 n)
def m (a:Nat):O:=.mv (.t a)
def M (n:Int):O:=.mv (.k (.int .i64 n))
def B (b:Bool):O:=.mv (.k (.bool b))
def l (a:Nat):O:=.load false 1 (.t a)
def L (n a:Nat):O:=.load true n (.t a)
def f (k a:Nat):O:=.faddr k (.t a)
def o (a b:Nat):O:=.pick (.t a) (.k (.bool true)) (.t b)
def n (a b:Nat):O:=.pick (.t a) (.t b) (.k (.bool false))
def b (op:BinOp) (a c:Nat):O:=.bin op (.t a) (.t c)
def c (op:BinOp) (a:Nat) (n:Int):O:=.bin op (.t a) (.k (.int .i64 n))
def s (n a b:Nat):O:=.store n (.t a) (.t b)
def x (e a b:Nat):O:=.iaddr e none (.t a) (.t b)
def y (e a:Nat) (n:Int):O:=.iaddr e none (.t a) (.k (.int .i64 n))
def h (a:Nat):O:=.len (.t a)
def e (k a:Nat):O:=.ext k (.t a)
def v (a:Nat):O:=.not (.t a)
def z (a:Nat):O:=.nilchk (.t a)
def r (a:Nat):Pm:=.ro (.t a)
def Z:V:=.int .i64 0
def g (k os ns:List Nat) (l:List Op'):C:=.fgt false k os (.reg ns l)
def S:List C->C
 |[]=>.skip
 |[a]=>a
 |a::l=>.seq a (S l)
end T
end Go.Ab

namespace Go.Ab
open Go
structure IfLt (a b:Int) (K:Bool->Prop):Prop where
 h:K (decide (a < b))
structure IfLe (a b:Int) (K:Bool->Prop):Prop where
 h:K (decide (a<=b))
structure IfEq (a b:Int) (K:Bool->Prop):Prop where
 h:K (a == b)
structure IfStr (a b:ByteArray) (K:Bool->Prop):Prop where
 h:K (a.toList == b.toList)
section
variable {a b:Int} {K:Bool->Prop}
theorem IfLt.t (h:a < b) (k:K true):IfLt a b K:=⟨by simpa [h] using k⟩
theorem IfLt.f (h : b <= a) (k : K false) : IfLt a b K := ⟨by
 have:¬ a < b:=by omega
 simpa [this] using k⟩
theorem IfLt.split (y:a < b->K true) (n:b<=a->K false):IfLt a b K:=by
 by_cases h:a < b
 ·exact .t h (y h)
 ·exact .f (by omega) (n (by omega))
theorem IfLe.t (h:a<=b) (k:K true):IfLe a b K:=⟨by simpa [h] using k⟩
theorem IfLe.f (h : b < a) (k : K false) : IfLe a b K := ⟨by
 have:¬ a<=b:=by omega
 simpa [this] using k⟩
theorem IfLe.split (y:a<=b->K true) (n:b < a->K false):IfLe a b K:=by
 by_cases h:a<=b
 ·exact .t h (y h)
 ·exact .f (by omega) (n (by omega))
theorem IfEq.t (h:a=b) (k:K true):IfEq a b K:=⟨by simpa [h] using k⟩
theorem IfEq.f (h : a ≠ b) (k : K false) : IfEq a b K := ⟨by
 have:(a == b)=false:=by simpa using h
 rw [this]; exact k⟩
theorem IfEq.split (y:a=b->K true) (n:a≠b->K false):IfEq a b K:=by
 by_cases h:a=b
 ·exact .t h (y h)
 ·exact .f h (n h)
theorem IfStr.split {a b:ByteArray} (y:a=b->K true) (n:a≠b->K false):IfStr a b K:=by
 by_cases h:a=b
 ·subst h; exact ⟨by simpa using y rfl⟩
 ·refine ⟨?_⟩
  have:(a.toList == b.toList)=false:=by
   rw [beq_eq_false_iff_ne]
   intro e
   apply h
   have e2:a.data.toList=b.data.toList:=by simpa [ByteArray.toList_eq] using e
   cases a; cases b
   simp only [ByteArray.mk.injEq]
   exact Array.ext' e2
  rw [this]; exact n h
end
structure Lt {α:Type} (p:Unit->Prop) (x:Unit->α) (K:α->Prop):Prop where
 need:p ()
 go:K (x ())
theorem Lt.all {α:Type} {p:Unit->Prop} {x:Unit->α} {K:α->Prop} (hp:p ()) (k:∀ v,v=x ()->K v):Lt p x K:=⟨hp,k _ rfl⟩
theorem Lt.to {α:Type} {p:Unit->Prop} {x:Unit->α} {K:α->Prop} {v:α} (hp:p ()) (h:x ()=v) (k:K v):Lt p x K:=⟨hp,h ▸ k⟩
def vw0 (st:St) (n:Nat) (v:V):V :=
 match v with
 |.sl _ s rows=>.sl false s rows
 |.sref r _ _=>match st.heap r with|.rows s rs=>.sl false s rs|_=>.undef
 |v=>(frz st n v).sh
def vw (st:St) (v:V):V :=
 match v with
 |.agg cs=>.agg (cs.map (vw0 st 3))
 |v=>vw0 st 4 v
def nd0 (st:St) (v:V) (K:Prop):Prop :=
 match v with
 |.sl _ _ rows=>V.shR rows=rows/\K
 |.sref r i m=>match st.heap r with|.rows _ rs=>(i=0/\m=rs.length/\V.shR rs=rs)/\K|_=>False
 |_=>K
def ndL (st:St):List V->Prop->Prop
 |[],K=>K
 |v::l,K=>nd0 st v (ndL st l K)
def nd (st:St) (v:V) (K:Prop):Prop :=
 match v with
 |.agg cs=>ndL st cs K
 |v=>nd0 st v K
def needs (st:St):List Pm->Prop
 |[]=>True
 |p::l=>nd st (p.x.ev st) (needs st l)
structure CallQ (P:Program) (f:FuncId) (need:Unit->Prop) (as:List V) (asx:Unit->List V) (plain:Bool) (K:V->Prop):Prop where
 h
  : (need ()/\∃ (res:V) (outs:List V) (fr:Bool),CallsV P f as res outs fr/\(plain=true\/fr=true)/\K res) \/
  ∃ (res:V) (outs:List V) (fr:Bool),CallsV P f (asx ()) res outs fr/\(plain=true\/fr=true)/\K res
theorem CallQ.to {P:Program} {f:FuncId} {need:Unit->Prop} {as as':List V} {asx:Unit->List V} {plain:Bool} {K:V->Prop} {res:V} {outs:List V} {fr:Bool} (hc:CallsV P f as' res outs fr) (h:as=as') (hp:plain=true\/fr=true) (k:K res)
  (hn:need ():=by first|exact True.intro|exact ⟨rfl,True.intro⟩|exact ⟨rfl,rfl,True.intro⟩):CallQ P f need as asx plain K :=
 ⟨.inl ⟨hn,_,_,_,h ▸ hc,hp,k⟩⟩
theorem CallQ.raw {P:Program} {f:FuncId} {need:Unit->Prop} {as as':List V} {asx:Unit->List V} {plain:Bool} {K:V->Prop} {res:V} {outs:List V} {fr:Bool} (hc:CallsV P f as' res outs fr) (h:asx ()=as') (hp:plain=true\/fr=true) (k:K res):CallQ P f need as asx plain K :=
 ⟨.inr ⟨_,_,_,h ▸ hc,hp,k⟩⟩
def Pm.isRo:Pm->Bool
 |.ro _=>true
 |_=>false
def binQ (op:BinOp) (k:IntKind) (a b:Int) (K:V->Prop):Prop :=
 match op with
 |.add=>Lt (fun _=>True) (fun _=>k.wrap (a+b)) fun c=>K (.int k c)
 |.sub=>Lt (fun _=>True) (fun _=>k.wrap (a - b)) fun c=>K (.int k c)
 |.mul=>Lt (fun _=>True) (fun _=>k.wrap (a * b)) fun c=>K (.int k c)
 |.quo=>Lt (fun _=>b≠0) (fun _=>k.wrap (a.tdiv b)) fun c=>K (.int k c)
 |.rem=>Lt (fun _=>b≠0) (fun _=>a.tmod b) fun c=>K (.int k c)
 |.eql=>IfEq a b fun t=>K (.bool t)
 |.neq=>IfEq a b fun t=>K (.bool !t)
 |.lss=>IfLt a b fun t=>K (.bool t)
 |.leq=>IfLe a b fun t=>K (.bool t)
 |.gtr=>IfLt b a fun t=>K (.bool t)
 |.geq=>IfLe b a fun t=>K (.bool t)
 |_=>False
def newQ (s:Nat) (rows:List (List V)) (mode:Option Nat) (d:Option Nat) (st:St) (K:St->Prop):Prop :=
 match mode with
 |none=>K (st.put d (.sl true s rows))
 |some r=>(st.heap r).isDead=true/\Lt (fun _=>True) (fun _=>rows.length) fun n=>K ((st.set r (.rows s rows)).put d (.sref r 0 n))
structure AppL (n bytes:Nat) (rs ys:Unit->List (List V)) (K:List (List V)->Nat->Prop):Prop where
 need:n=(rs ()).length/\(n+(ys ()).length) * bytes<=140737488355328
 go:K (rs () ++ ys ()) (n+(ys ()).length)
theorem AppL.to {n bytes:Nat} {rs ys:List (List V)} {K:List (List V)->Nat->Prop} (h1:n=rs.length) (h2:(rs.length+ys.length) * bytes<=140737488355328)
  (k:∀ v m,v=rs ++ ys->m=v.length->v.length=rs.length+ys.length->K v m):AppL n bytes (fun _=>rs) (fun _=>ys) K:=by
 subst h1
 exact ⟨⟨rfl,h2⟩,k _ _ rfl (by simp) (by simp)⟩
def appQ (s bytes:Nat) (x:V) (ys:List (List V)) (mode:Option Nat) (d:Option Nat) (st:St) (K:St->Prop):Prop :=
 match x with
 |.nils _=>AppL 0 bytes (fun _=>[]) (fun _=>ys) fun rows n=>match mode with
  |none=>K (st.put d (.sl true s rows))
  |some r=>(st.heap r).isDead=true/\K ((st.set r (.rows s rows)).put d (.sref r 0 n))
 |.sref r i n=>match st.heap r with
  |.rows s' rs=>s'=s/\i=0/\AppL n bytes (fun _=>rs) (fun _=>ys) fun rs' m=>match mode with
   |none=>K ((st.kills [r]).put d (.sl true s rs'))
   |some r'=>r'=r/\K (((st.kills [r]).set r (.rows s rs')).put d (.sref r 0 m))
  |_=>False
 |_=>False
section
variable (L:List (List V)->Nat)
def thawCl (v:V) (ns:List Nat):V×List Nat×List (Nat×AO) :=
 match v with
 |.own s rows=>match ns with
  |r::ns=>(.sref r 0 (L rows),ns,[(r,.rows s rows)])
  |[]=>(.sl true s rows,[],[])
 |.ownm ks vs=>match ns with
  |r::ns=>(.mp r,ns,[(r,.mp ks vs)])
  |[]=>(.undef,[],[])
 |v=>(v,ns,[])
def thawLl:List V->List Nat->List V×List Nat×List (Nat×AO)
 |[],ns=>([],ns,[])
 |v::l,ns =>
  let a:=thawCl L v ns
  let b:=thawLl l a.2.1
  (a.1::b.1,b.2.1,a.2.2 ++ b.2.2)
def thaw2l (v:V) (ns:List Nat):V×List Nat×List (Nat×AO) :=
 match v with
 |.agg cs=>let a:=thawLl L cs ns; (.agg a.1,a.2.1,a.2.2)
 |v=>thawCl L v ns
def thawTl:List V->List Nat->List V×List Nat×List (Nat×AO)
 |[],ns=>([],ns,[])
 |v::l,ns =>
  let a:=thaw2l L v ns
  let b:=thawTl l a.2.1
  (a.1::b.1,b.2.1,a.2.2 ++ b.2.2)
def thawl (v:V) (ns:List Nat):V×List Nat×List (Nat×AO) :=
 match v with
 |.tup vs=>let a:=thawTl L vs ns; (.tup a.1,a.2.1,a.2.2)
 |v=>thaw2l L v ns
def backCl (old new:V):V×List (Nat×AO) :=
 match new,old with
 |.own s rows,.sref r _ _=>(.sref r 0 (L rows),[(r,.rows s rows)])
 |v,_=>(v,[])
def backLl:List V->List V->List V×List (Nat×AO)
 |o::os,n::ns=>let a:=backCl L o n; let b:=backLl os ns; (a.1::b.1,a.2 ++ b.2)
 |_,_=>([],[])
def backsl (st:St):List Pm->List V->St->St
 |.io x n::ps,o::os,s=>match x.ev st,o with
  |.ptr r off,.io cs'=>match s.heap r with
   |.box cs1=>backsl st ps os ((s.sets (backLl L (oldC st r off n) cs').2).set r (.box (setR cs1 off (backLl L (oldC st r off n) cs').1)))
   |_=>backsl st ps os s
  |_,_=>backsl st ps os s
 |_::ps,_::os,s=>backsl st ps os s
 |_,_,s=>s
def outsOkl (st:St):List Pm->List V->Bool
 |.io x n::ps,o::os=>(match x.ev st,o with
   |.ptr r off,.io cs'=>cs'.length == n&&(backLl L (oldC st r off n) cs').1.all V.noOwn
   |_,_=>false)&&outsOkl st ps os
 |_::ps,_::os=>outsOkl st ps os
 |_,_=>true
def gvC (st:St) (v:V):V :=
 match v with
 |.sref r 0 _=>match st.heap r with|.rows s rs=>.own s rs|_=>.undef
 |.nils s=>.own s []
 |.sl _ s rows=>.sl false s rows
 |v=>(giveC st v).sh
def gnC (st:St) (v:V) (K:Prop):Prop :=
 match v with
 |.sref r 0 n=>match st.heap r with|.rows _ rs=>(n=L rs/\V.shR rs=rs)/\K|_=>False
 |.sl _ _ rows=>V.shR rows=rows/\K
 |_=>K
def gnL (st:St):List V->Prop->Prop
 |[],K=>K
 |v::l,K=>gnC L st v (gnL st l K)
def gvP (sr st:St):Pm->V
 |.ro x=>vw sr (x.ev sr)
 |.io x n=>match x.ev st with
  |.ptr r off=>match st.heap r with|.box cs=>(match Nat.ble (off+n) cs.length with|true=>.io (((cs.drop off).take n).map (gvC st))|false=>.undef)|_=>.undef
  |_=>.undef
 |.mv x _=>gvC st (x.ev st)
def gnP (sr st:St) (p:Pm) (K:Prop):Prop :=
 match p with
 |.ro x=>nd sr (x.ev sr) K
 |.io x n=>match x.ev st with
  |.ptr r off=>match st.heap r with|.box cs=>gnL L st ((cs.drop off).take n) K|_=>K
  |_=>K
 |.mv x _=>gnC L st (x.ev st) K
def gneeds (sr st:St):List Pm->Prop
 |[]=>True
 |p::l=>gnP L sr st p (gneeds sr st l)
end
def okV (v:V) (p:Pm):Bool :=
 match v,p with
 |v,.ro _=>v.closed
 |.io cs,.io _ _=>cs.all V.okGiven
 |.own _ _,.mv _ _=>true
 |_,_=>false
def okVs:List V->List Pm->Bool
 |v::l,p::m=>okV v p&&okVs l m
 |_,_=>true
structure CallI (P:Program) (f:FuncId) (need:Unit->Prop) (as:List V) (plain noio:Bool) (ok:List V->Bool) (K:V->List V->Prop):Prop where
 h:need ()/\∃ (res:V) (outs:List V) (fr:Bool),CallsV P f as res outs fr/\(plain=true\/(fr=true/\noio=true))/\ok outs=true/\K res outs
theorem CallI.go {P:Program} {f:FuncId} {need:Unit->Prop} {as as':List V} {plain noio:Bool} {ok:List V->Bool} {K:V->List V->Prop} {res:V} {outs:List V} {fr:Bool} (hc:CallsV P f as' res outs fr) (k:K res outs) (h:as=as':=by rfl)
  (hp:plain=true\/(fr=true/\noio=true):=by first|exact .inl rfl|exact .inr ⟨rfl,rfl⟩) (ho:ok outs=true:=by rfl) (hn:need ():=by repeat' first|exact True.intro|exact rfl|assumption|refine ⟨?_,?_⟩):CallI P f need as plain noio ok K :=
 ⟨hn,_,_,_,h ▸ hc,hp,ho,k⟩
def callQ (P:Program) (L:List (List V)->Nat) (f:FuncId) (args:List Pm) (objs:List Nat) (d:Option Nat) (st:St) (K:St->Prop):Prop :=
 match args.all Pm.isRo with
 |true=>nodupB objs=true/\objs.all (fun r=>(st.heap r).isDead)=true/\args.all (·.ok st st)=true/\CallQ P f (fun _=>needs st args) (args.map fun p=>vw st (p.x.ev st)) (fun _=>args.map (·.val st st)) (args.all (·.plain st)) fun res=>K ((st.sets (thawl L res objs).2.2).put d (thawl L res objs).1)
 |false=>nodupB (args.flatMap (·.gone st) ++ args.flatMap (·.box st))=true/\nodupB objs=true/\objs.all (fun r=>(st.heap r).isDead)=true /\
  okVs (args.map (gvP (st.kills (args.flatMap (·.gone st) ++ args.flatMap (·.box st))) st)) args=true /\
  CallI P f (fun _=>gneeds L (st.kills (args.flatMap (·.gone st) ++ args.flatMap (·.box st))) st args) (args.map (gvP (st.kills (args.flatMap (·.gone st) ++ args.flatMap (·.box st))) st))
   (args.all (·.plain (st.kills (args.flatMap (·.gone st) ++ args.flatMap (·.box st))))) (!args.any Pm.isIo) (outsOkl L st args) fun res outs =>
    K (((backsl L st args outs (blanks st args (st.kills (args.flatMap (·.gone st))))).sets (thawl L res objs).2.2).put d (thawl L res objs).1)
structure CanQ (P:Program) (f:FuncId) (K:Prop):Prop where
 c:callable P f=true
 k:K
theorem CanQ.to {P:Program} {f:FuncId} {K:Prop} (c:callable P f=true) (k:K):CanQ P f K:=⟨c,k⟩
structure IfNil (rows:List (List V)) (K:Bool->Prop):Prop where
 h:(rows=[]->K true/\K false)/\(rows≠[]->K false)
theorem IfNil.split {rows:List (List V)} {K:Bool->Prop} (y:rows=[]->K true) (n:K false):IfNil rows K:=⟨fun e=>⟨y e,n⟩,fun _=>n⟩
theorem IfNil.f {rows:List (List V)} {K:Bool->Prop} (h:rows≠[]) (n:K false):IfNil rows K:=⟨fun e=>absurd e h,fun _=>n⟩
structure MapQ (need:Unit->Prop) (m:Unit->List V×List V) (K:List V->List V->Prop):Prop where
 n:need ()
 h:K (m ()).1 (m ()).2
theorem MapQ.to {need:Unit->Prop} {m:Unit->List V×List V} {K:List V->List V->Prop} {ks vs:List V} (hn:need ()) (e:m ()=(ks,vs)) (k:K ks vs):MapQ need m K:=⟨hn,by rw [e]; exact k⟩
structure EqQ (ks:List Nat) (l m:List V) (K:Bool->Prop):Prop where
 h:∃ b,eqK ks l m=some b/\K b
def eqsP:List V->List V->Prop
 |.int _ a::l,.int _ b::m=>a=b/\eqsP l m
 |_,_=>True
def intsB:List Nat->List V->List V->Bool
 |0::ks,.int k _::l,.int k' _::m=>decide (k=k')&&intsB ks l m
 |[],[],[]=>true
 |_,_,_=>false
theorem eqK_ints:∀ {ks:List Nat} {l m:List V},intsB ks l m=true->∃ b,eqK ks l m=some b/\(b=true↔eqsP l m)
 |[],[],[],_=>⟨true,rfl,by simp [eqsP]⟩
 |0::ks,.int k a::l,.int k' b::m,h=>by
  simp only [intsB,Bool.and_eq_true,decide_eq_true_eq] at h
  obtain ⟨rfl,h⟩:=h
  obtain ⟨c,h1,h2⟩:=eqK_ints h
  refine ⟨(a == b)&&c,by simp [eqK,eqC,h1],?_⟩
  simp only [Bool.and_eq_true,beq_iff_eq,eqsP,h2]
theorem EqQ.ints {ks:List Nat} {l m:List V} {K:Bool->Prop} (h:intsB ks l m=true) (y:eqsP l m->K true) (n:¬ eqsP l m->K false):EqQ ks l m K:=by
 obtain ⟨b,h1,h2⟩:=eqK_ints h
 refine ⟨b,h1,?_⟩
 cases b with
 |true=>exact y (h2.1 rfl)
 |false=>exact n fun hp=>by have:=h2.2 hp; cases this
def mgrow (g k n:Int) (ks vs:List V):List V×List V:=mput (.int .i64 g) (.own 2 (((rows2 (mfind (.int .i64 g) ks vs)).getD []) ++ [[.int .i64 k,.int .i64 n]])) ks vs
def effQ (P:Program) (L:List (List V)->Nat) (o:O) (d:Option Nat) (st:St) (K:St->Prop):Prop :=
 match o with
 |.pick c a b=>match c.ev st with
  |.bool true=>K (st.put d (a.ev st))
  |.bool false=>K (st.put d (b.ev st))
  |_=>False
 |.iaddr s none x i=>match i.ev st with
  |.int _ n=>match x.ev st with
   |.sl _ s' rows=>Lt (fun _=>s'=s/\0<=n/\n.toNat < rows.length) (fun _=>rows.getD n.toNat []) fun row=>K (st.put d (.cp row 0))
   |.sref r j m=>match st.heap r with
    |.rows s' _=>Lt (fun _=>s'=s/\0<=n/\n.toNat < m) (fun _=>j+n.toNat) fun k=>K (st.put d (.rptr r k 0))
    |_=>False
   |_=>False
  |_=>False
 |.iaddr s (some l) x i=>match i.ev st with
  |.int _ n=>Lt (fun _=>0<=n/\n.toNat < l) (fun _=>n.toNat) fun m=>match x.ev st with
   |.ptr r o=>K (st.put d (.ptr r (o+m * s)))
   |.rptr r j o=>K (st.put d (.rptr r j (o+m * s)))
   |.cp cs o=>K (st.put d (.cp cs (o+m * s)))
   |_=>False
  |_=>False
 |.load agg n x=>match x.ev st with
  |.ptr r off=>match st.heap r with
   |.box cs=>off+n<=cs.length/\K (st.put d (pickc agg n off cs))
   |_=>False
  |.rptr r i off=>match st.heap r with
   |.rows s rs=>Lt (fun _=>off+n<=s) (fun _=>rs.getD i []) fun row=>K (st.put d (pickc agg n off row))
   |_=>False
  |.cp cs off=>off+n<=cs.length/\K (st.put d (pickc agg n off cs))
  |_=>False
 |.store n x v=>(v.ev st).val=true/\(v.ev st).cells.length=n/\match x.ev st with
  |.ptr r off=>match st.heap r with
   |.box cs=>off+n<=cs.length/\K ((st.set r (.box (setR cs off (v.ev st).cells))).put d .undef)
   |_=>False
  |.rptr r i off=>match st.heap r with
   |.rows s rs=>Lt (fun _=>V.closedL (v.ev st).cells=true/\off+n<=s) (fun _=>rs.set i (setR (rs.getD i []) off (v.ev st).cells)) fun rs'=>K ((st.set r (.rows s rs')).put d .undef)
   |_=>False
  |_=>False
 |.bin op x y=>match x.ev st,y.ev st with
  |.int k a,.int k' b=>k=k'/\binQ op k a b fun v=>K (st.put d v)
  |_,_=>False
 |.eqs ng x y=>match x.ev st,y.ev st with
  |.str a,.str b=>IfStr a b fun t=>K (st.put d (.bool (bif ng then !t else t)))
  |_,_=>False
 |.eqa ng ks x y=>match x.ev st,y.ev st with
  |.agg l,.agg m=>EqQ ks l m fun t=>K (st.put d (.bool (bif ng then !t else t)))
  |_,_=>False
 |.max x y=>match x.ev st,y.ev st with
  |.int k a,.int k' b=>k=k'/\IfLt a b fun t=>K (st.put d (.int k (bif t then b else a)))
  |_,_=>False
 |.min x y=>match x.ev st,y.ev st with
  |.int k a,.int k' b=>k=k'/\IfLt b a fun t=>K (st.put d (.int k (bif t then b else a)))
  |_,_=>False
 |.len x=>match x.ev st with
  |.sl _ _ rows=>Lt (fun _=>True) (fun _=>(rows.length:Int)) fun n=>K (st.put d (.int .i64 n))
  |.sref _ _ n=>Lt (fun _=>True) (fun _=>(n:Int)) fun n=>K (st.put d (.int .i64 n))
  |.nils _=>K (st.put d (.int .i64 0))
  |_=>False
 |.app s bytes x y mode=>match y.ev st with
  |.sl _ s' ys=>s'=s/\appQ s bytes (x.ev st) ys mode d st K
  |.nils _=>appQ s bytes (x.ev st) [] mode d st K
  |.sref r j m=>match st.heap r with
   |.rows s' rs=>s'=s/\Lt (fun _=>True) (fun _=>(rs.drop j).take m) fun ys=>appQ s bytes (x.ev st) ys mode d st K
   |_=>False
  |_=>False
 |.slice s x lo hi=>match x.ev st,(match lo with|none=>V.int .i64 0|some l=>l.ev st) with
  |.sl f s' rows,.int _ l=>match hi with
   |none=>s'=s/\Lt (fun _=>0<=l/\l<=rows.length) (fun _=>rows.drop l.toNat) fun rows=>K (st.put d (.sl f s rows))
   |some h=>match h.ev st with
    |.int _ h=>s'=s/\Lt (fun _=>0<=l/\l<=h/\h<=rows.length) (fun _=>(rows.take h.toNat).drop l.toNat) fun rows=>K (st.put d (.sl f s rows))
    |_=>False
  |.sref r i n,.int _ l=>match st.heap r,(match hi with|none=>V.int .i64 n|some h=>h.ev st) with
   |.rows s' _,.int _ h=>s'=s/\Lt (fun _=>0<=l/\l<=h/\h<=n) (fun _=>(i+l.toNat,h.toNat - l.toNat)) fun p=>K (st.put d (.sref r p.1 p.2))
   |_,_=>False
  |_,_=>False
 |.mks s bytes z n mode=>match n.ev st with
  |.int .i64 n=>Lt (fun _=>0<=n/\n<=140737488355328/\bytes * n<=140737488355328) (fun _=>List.replicate n.toNat z) fun rows=>newQ s rows mode d st K
  |_=>False
 |.call f args objs=>callQ P L f args objs d st K
 |.cut s x hi mode=>match x.ev st,hi.ev st with
  |.sref r i n,.int _ h=>match st.heap r with
   |.rows s' rs=>s'=s/\i=0/\Lt (fun _=>n=rs.length/\0<=h/\h.toNat<=n) (fun _=>(rs.take h.toNat,h.toNat)) fun p=>match mode with
    |none=>K ((st.kills [r]).put d (.sl true s p.1))
    |some r'=>r'=r/\K (((st.kills [r]).set r (.rows s p.1)).put d (.sref r 0 p.2))
   |_=>False
  |_,_=>False
 |.callp f args cands=>match firstDead st cands with
  |some r=>callQ P L f args [r] d st K
  |none=>False
 |.calln x args objs=>match x.ev st with
  |.fn f first caps=>CanQ P f (V.closedL first=true/\V.closedL caps=true/\callQ P L f (first.map (fun v=>.ro (.k v)) ++ args ++ caps.map fun v=>.ro (.k v)) objs d st K)
  |_=>False
 |.niltest ng x=>match x.ev st with
  |.sl _ _ rows=>IfNil rows fun t=>K (st.put d (.bool (bif ng then !t else t)))
  |.nils _=>IfNil [] fun t=>K (st.put d (.bool (bif ng then !t else t)))
  |.sref _ _ _=>IfNil [] fun t=>K (st.put d (.bool (bif ng then !t else t)))
  |_=>False
 |.mget kd z x k=>match x.ev st with
  |.mp r=>match st.heap r with
   |.mp ks vs=>Lt (fun _=>kd.keyLike (k.ev st)=true/\∀ y∈ks,kd.keyLike y=true) (fun _=>match mfind (k.ev st) ks vs with|some v=>v.unown|none=>z) fun v=>K (st.put d v)
   |_=>False
  |_=>False
 |.mlen x=>match x.ev st with
  |.mp r=>match st.heap r with
   |.mp ks _=>Lt (fun _=>True) (fun _=>(ks.length:Int)) fun n=>K (st.put d (.int .i64 n))
   |_=>False
  |_=>False
 |.mset kd x k v=>match x.ev st with
  |.mp r=>match st.heap r with
   |.mp ks vs=>MapQ (fun _=>kd.keyLike (k.ev st)=true/\(∀ y∈ks,kd.keyLike y=true)/\(v.ev st).closed=true/\(v.ev st).val=true) (fun _=>mput (k.ev st) (v.ev st) ks vs) fun ks vs=>K ((st.set r (.mp ks vs)).put d .undef)
   |_=>False
  |_=>False
 |.mput f x g k n=>match x.ev st,g.ev st,k.ev st,n.ev st with
  |.mp r,.int .i64 g,.int .i64 k,.int .i64 n=>match st.heap r with
   |.mp ks vs=>MapQ (fun _=>PutC P f/\(∀ y∈ks,(V.int .i64 0).keyLike y=true)/\∃ rows,rows2 (mfind (.int .i64 g) ks vs)=some rows/\(rows.length+1) * 16<=140737488355328) (fun _=>mgrow g k n ks vs) fun ks vs=>K ((st.set r (.mp ks vs)).put d .undef)
   |_=>False
  |_,_,_,_=>False
 |.clr s z x=>match x.ev st with
  |.sref r i n=>match st.heap r with
   |.rows s' rs=>s'=s/\Lt (fun _=>True) (fun _=>clearR z i n rs) fun rs'=>K ((st.set r (.rows s rs')).put d (.tup []))
   |_=>False
  |_=>False
 |o=>eff P o d st K
theorem newQ_sound {s:Nat} {rows:List (List V)} {mode d:Option Nat} {st:St} {K K':St->Prop} (h:newQ s rows mode d st K) (hK:∀ s,K s->K' s):newSl s rows mode d st K':=by
 unfold newQ at h
 unfold newSl
 split
 ·exact hK _ h
 ·obtain ⟨a,b⟩:=h
  exact ⟨a,hK _ b.go⟩
theorem appQ_sound {P:Program} {s bytes:Nat} {x y:X} {ys:List (List V)} {mode d:Option Nat} {st:St} {K K':St->Prop} (hy:srcRows st s (y.ev st)=some ys) (h:appQ s bytes (x.ev st) ys mode d st K) (hK:∀ s,K s->K' s) :
  eff P (.app s bytes x y mode) d st K':=by
 simp only [eff,hy]
 unfold appQ at h
 split at h
 ·rename_i hx
  rw [hx]
  have h1:=h.need
  have h2:=h.go
  simp only [Nat.zero_add,List.nil_append] at h1 h2
  refine ⟨h1.2,?_⟩
  unfold newSl
  cases mode with
  |none=>exact hK _ h2
  |some r=>exact ⟨h2.1,hK _ h2.2⟩
 ·rename_i r i n hx
  rw [hx]
  split at h
  ·rename_i s' rs hr
   simp only [hr]
   obtain ⟨h1,h2,h3⟩:=h
   refine ⟨h1,h2,h3.need.1,h3.need.2,?_⟩
   have h4:=h3.go
   cases mode with
   |none=>exact hK _ h4
   |some r'=>exact ⟨h4.1,hK _ h4.2⟩
  ·exact h.elim
 ·exact h.elim
theorem all_ro {args:List Pm} (h:args.all Pm.isRo=true) (st:St) :
  args.flatMap (·.gone st)=[]/\args.flatMap (·.box st)=[]/\(∀ (outs:List V) (s:St),backs st args outs s=s)/\(∀ s:St,blanks st args s=s)/\(∀ outs:List V,outsOk st args outs=true)/\args.any Pm.isIo=false:=by
 induction args with
 |nil=>exact ⟨rfl,rfl,fun outs s=>by cases outs <;> rfl,fun s=>rfl,fun outs=>by cases outs <;> rfl,rfl⟩
 |cons p l ih =>
  simp only [List.all_cons,Bool.and_eq_true] at h
  obtain ⟨h1,h2,h3,h4,h5,h6⟩:=ih h.2
  cases p with
  |ro x =>
   refine ⟨by rw [List.flatMap_cons,h1]; rfl,by rw [List.flatMap_cons,h2]; rfl,fun outs s=>?_,fun s=>?_,fun outs=>?_,by simp [Pm.isIo,h6]⟩
   ·cases outs with
    |nil=>rfl
    |cons o os=>exact h3 os s
   ·exact h4 s
   ·cases outs with
    |nil=>rfl
    |cons o os=>exact h5 os
  |io x n=>simp [Pm.isRo] at h
  |mv x s=>simp [Pm.isRo] at h
theorem vw0_eq {st:St} {n:Nat} {v:V} {K:Prop} (h:nd0 st v K):vw0 st (n+1) v=(frz st (n+1) v).sh/\K:=by
 unfold nd0 at h
 split at h
 ·refine ⟨?_,h.2⟩
  simp only [vw0,frz,V.sh,h.1]
 ·split at h
  ·rename_i hr
   refine ⟨?_,h.2⟩
   obtain ⟨⟨rfl,rfl,h3⟩,_⟩:=h
   simp only [vw0,frz,hr,List.drop_zero,List.take_length,V.sh,h3]
  ·exact h.elim
 ·rename_i h1 h2
  refine ⟨?_,h⟩
  cases v <;> first|rfl|exact (h1 _ _ _ rfl).elim|exact (h2 _ _ _ rfl).elim
theorem ndL_eq {st:St} {n:Nat}:∀ {l:List V} {K:Prop},ndL st l K->l.map (vw0 st (n+1))=V.shL (l.map (frz st (n+1)))/\K
 |[],_,h=>⟨rfl,h⟩
 |v::l,K,h=>by
  obtain ⟨h1,h2⟩:=vw0_eq (n:=n) (show nd0 st v (ndL st l K) from h)
  obtain ⟨h3,h4⟩:=ndL_eq (n:=n) h2
  exact ⟨by simp only [List.map_cons,V.shL,h1,h3],h4⟩
theorem vw_eq {st:St} {v:V} {K:Prop} (h:nd st v K):vw st v=(frz st 4 v).sh/\K:=by
 unfold nd at h
 split at h
 ·obtain ⟨h1,h2⟩:=ndL_eq (n:=2) h
  exact ⟨by simp only [vw,frz,V.sh,h1],h2⟩
 ·rename_i hne
  obtain ⟨h1,h2⟩:=vw0_eq (n:=3) h
  refine ⟨?_,h2⟩
  rw [<- h1]
  unfold vw
  split
  ·exact absurd rfl (hne _)
  ·rfl
theorem needs_eq {st:St}:∀ {args:List Pm},args.all Pm.isRo=true->needs st args->(args.map fun p=>vw st (p.x.ev st))=args.map (·.val st st)
 |[],_,_=>rfl
 |p::l,hro,h=>by
  simp only [List.all_cons,Bool.and_eq_true] at hro
  obtain ⟨h1,h2⟩:=vw_eq (show nd st (p.x.ev st) (needs st l) from h)
  simp only [List.map_cons,needs_eq hro.2 h2]
  congr 1
  cases p with
  |ro x=>exact h1
  |io x n=>simp [Pm.isRo] at hro
  |mv x s=>simp [Pm.isRo] at hro
theorem thawCl_eq (v:V) (ns:List Nat):thawCl List.length v ns=thawC v ns:=by cases v <;> first|rfl|(cases ns <;> rfl)
theorem thawLl_eq:∀ (l:List V) (ns:List Nat),thawLl List.length l ns=thawL l ns
 |[],_=>rfl
 |v::l,ns=>by simp only [thawLl,thawL,thawCl_eq,thawLl_eq l]
theorem thaw2l_eq (v:V) (ns:List Nat):thaw2l List.length v ns=thaw2 v ns:=by cases v <;> simp only [thaw2l,thaw2,thawCl_eq,thawLl_eq]
theorem thawTl_eq:∀ (l:List V) (ns:List Nat),thawTl List.length l ns=thawT l ns
 |[],_=>rfl
 |v::l,ns=>by simp only [thawTl,thawT,thaw2l_eq,thawTl_eq l]
theorem thawl_eq (v:V) (ns:List Nat):thawl List.length v ns=thaw v ns:=by cases v <;> simp only [thawl,thaw,thaw2l_eq,thawTl_eq]
theorem backCl_eq (o n:V):backCl List.length o n=backC o n:=by cases n <;> first|rfl|(cases o <;> rfl)
theorem backLl_eq:∀ (os ns:List V),backLl List.length os ns=backL os ns
 |[],_=>by cases ‹List V› <;> rfl
 |_::_,[]=>rfl
 |o::os,n::ns=>by simp only [backLl,backL,backCl_eq,backLl_eq os ns]
theorem backsl_eq (st:St):∀ (ps:List Pm) (os:List V) (s:St),backsl List.length st ps os s=backs st ps os s
 |[],_,_=>rfl
 |p::ps,[],s=>by cases p <;> rfl
 |p::ps,o::os,s=>by
  cases p with
  |io x n=>simp only [backsl,backs,backLl_eq,backsl_eq st ps os]; rfl
  |ro x=>exact backsl_eq st ps os s
  |mv x k=>exact backsl_eq st ps os s
theorem outsOkl_eq (st:St):∀ (ps:List Pm) (os:List V),outsOkl List.length st ps os=outsOk st ps os
 |[],_=>rfl
 |p::ps,[]=>by cases p <;> rfl
 |p::ps,o::os=>by
  cases p with
  |io x n=>simp only [outsOkl,outsOk,backLl_eq,outsOkl_eq st ps os]; rfl
  |ro x=>exact outsOkl_eq st ps os
  |mv x k=>exact outsOkl_eq st ps os
theorem gvC_eq {st:St} {v:V} {K:Prop} (h:gnC List.length st v K):gvC st v=(giveC st v).sh/\K:=by
 unfold gnC at h
 split at h
 ·rename_i r n
  split at h
  ·rename_i s rs hr
   obtain ⟨⟨rfl,h2⟩,h3⟩:=h
   exact ⟨by simp only [gvC,giveC,hr,if_pos,V.sh,h2],h3⟩
  ·exact h.elim
 ·rename_i f s rows
  exact ⟨by simp only [gvC,giveC,V.sh,h.1],h.2⟩
 ·rename_i h1 h2
  refine ⟨?_,h⟩
  unfold gvC
  split
  ·rename_i r n; exact (h1 r n rfl).elim
  ·rfl
  ·rename_i f s rows; exact (h2 f s rows rfl).elim
  ·rfl
theorem gnL_eq {st:St}:∀ {l:List V} {K:Prop},gnL List.length st l K->l.map (gvC st)=l.map (fun c=>(giveC st c).sh)/\K
 |[],_,h=>⟨rfl,h⟩
 |v::l,K,h=>by
  obtain ⟨h1,h2⟩:=gvC_eq (show gnC List.length st v (gnL List.length st l K) from h)
  obtain ⟨h3,h4⟩:=gnL_eq h2
  exact ⟨by simp only [List.map_cons,h1,h3],h4⟩
theorem gvP_eq {sr st:St} {p:Pm} {K:Prop} (h:gnP List.length sr st p K):gvP sr st p=p.val sr st/\K:=by
 cases p with
 |ro x=>exact vw_eq (show nd sr (x.ev sr) K from h)
 |mv x s=>exact gvC_eq (show gnC List.length st (x.ev st) K from h)
 |io x n =>
  simp only [gnP] at h
  simp only [gvP,Pm.val]
  split at h
  ·rename_i r off hx
   simp only [hx]
   split at h
   ·rename_i cs hr
    simp only [hr]
    obtain ⟨h1,h2⟩:=gnL_eq h
    refine ⟨?_,h2⟩
    by_cases hle:off+n<=cs.length
    ·rw [show Nat.ble (off+n) cs.length=true from Nat.ble_eq_true_of_le hle,if_pos hle]
     simp only [h1]
    ·rw [if_neg hle]
     cases hb:Nat.ble (off+n) cs.length with
     |true=>exact (hle (Nat.le_of_ble_eq_true hb)).elim
     |false=>rfl
   ·rename_i hne
    refine ⟨?_,h⟩
    split
    ·rename_i cs hr; exact (hne cs hr).elim
    ·rfl
  ·rename_i hne
   refine ⟨?_,h⟩
   split
   ·rename_i r off hx; exact (hne r off hx).elim
   ·rfl
theorem gneeds_eq {sr st:St}:∀ {args:List Pm},gneeds List.length sr st args->args.map (gvP sr st)=args.map (·.val sr st)
 |[],_=>rfl
 |p::l,h=>by
  obtain ⟨h1,h2⟩:=gvP_eq (show gnP List.length sr st p (gneeds List.length sr st l) from h)
  simp only [List.map_cons,h1,gneeds_eq h2]
theorem okVs_eq {sr st:St}:∀ {args:List Pm},okVs (args.map (·.val sr st)) args=true->args.all (·.ok sr st)=true
 |[],_=>rfl
 |p::l,h=>by
  simp only [List.map_cons,okVs,Bool.and_eq_true] at h
  simp only [List.all_cons,Bool.and_eq_true]
  exact ⟨h.1,okVs_eq h.2⟩
theorem callQ_sound {P:Program} {f:FuncId} {args:List Pm} {objs:List Nat} {d:Option Nat} {st:St} {K K':St->Prop} (h:callQ P List.length f args objs d st K) (hK:∀ s,K s->K' s):call P f args objs d st K':=by
 unfold callQ at h
 simp only [thawl_eq] at h
 split at h
 ·rename_i hro
  obtain ⟨h1,h2,h3,h4,h5,h6⟩:=all_ro hro st
  obtain ⟨a,b,c,h⟩:=h
  have h:∃ (res:V) (outs:List V) (fr:Bool),CallsV P f (args.map (·.val st st)) res outs fr/\(args.all (·.plain st)=true\/fr=true)/\K ((st.sets (thaw res objs).2.2).put d (thaw res objs).1):=by
   rcases h.h with ⟨hnd,res,outs,fr,hc,hp,k⟩|h
   ·exact ⟨res,outs,fr,by rw [needs_eq hro hnd] at hc; exact hc,hp,k⟩
   ·exact h
  obtain ⟨res,outs,fr,hc,hp,k⟩:=h
  refine ⟨by rw [h1,h2]; rfl,a,b,?_,res,outs,fr,?_,?_,h5 _,?_⟩
  ·rw [h1,h2]; exact c
  ·rw [h1,h2]; exact hc
  ·rw [h1,h2]; exact hp.imp id fun e=>⟨e,h6⟩
  ·rw [h3,h4,h1]; exact hK _ k
 ·obtain ⟨a,b,c,e,⟨hn,res,outs,fr,hc,hp,ho,k⟩⟩:=h
  have ev:=gneeds_eq hn
  rw [ev] at e hc
  rw [outsOkl_eq] at ho
  rw [backsl_eq] at k
  exact ⟨a,b,c,okVs_eq e,res,outs,fr,hc,hp.imp id (fun ⟨e1,e2⟩=>⟨e1,by simpa using e2⟩),ho,hK _ k⟩
end Go.Ab

namespace Go.Ab
open Go
variable {P:Program} {d:Option Nat} {st:St} {K K':St->Prop}
theorem binQ_sound {op:BinOp} {k:IntKind} {a b:Int} {K:V->Prop} {K':V->Prop} (h:binQ op k a b K) (hK:∀ s,K s->K' s):binI op k a b K':=by
 cases op <;> first|exact h.elim|exact hK _ h.go|exact hK _ h.h|exact ⟨h.need,hK _ h.go⟩
theorem effQ_sound {o:O} (h:effQ P List.length o d st K) (hK:∀ s,K s->K' s):eff P o d st K':=by
 cases o with
 |mv x=>exact hK _ h
 |pick c a b =>
  simp only [effQ,eff] at h ⊢
  split at h
  ·rename_i h1
   simp only [h1]
   split
   ·rename_i e1 e2 e3; cases e1; simp only [cond_true]; rw [e2] at h; exact hK _ h
   ·rename_i e1 _; cases e1; exact ⟨fun _=>hK _ h,(fun e=>by cases e)⟩
   ·simp_all
  ·rename_i h1
   simp only [h1]
   split
   ·rename_i e1 e2 e3; cases e1; simp only [cond_false]; rw [e3] at h; exact hK _ h
   ·rename_i e1 _; cases e1; exact ⟨(fun e=>by cases e),fun _=>hK _ h⟩
   ·simp_all
  ·exact h.elim
 |box x r=>exact ⟨h.1,h.2.1,hK _ h.2.2⟩
 |alloc z r objs=>exact ⟨h.1,h.2.1,hK _ h.2.2⟩
 |nil s r=>exact ⟨h.1,hK _ h.2⟩
 |build z parts=>exact ⟨h.1,hK _ h.2⟩
 |bsl s parts mode =>
  simp only [effQ,eff] at h ⊢
  split
  ·cases mode with
   |none=>exact hK _ h
   |some r=>exact ⟨h.1,hK _ h.2⟩
  ·rename_i hne
   split at h
   ·exact absurd rfl hne
   ·exact ⟨h.1,newSl_mono h.2 hK⟩
 |load agg n x =>
  simp only [effQ,eff] at h ⊢
  repeat' split at h
  all_goals first|exact h.elim|skip
  ·rename_i h1 _ _ h2; (try simp only [h1,h2]); exact ⟨h.1,hK _ h.2⟩
  ·rename_i h1 _ _ _ h2; (try simp only [h1,h2]); exact ⟨h.need,hK _ h.go⟩
  ·rename_i h1; (try simp only [h1]); exact ⟨h.1,hK _ h.2⟩
 |store n x v =>
  simp only [effQ,eff] at h ⊢
  obtain ⟨a1,a2,h⟩:=h
  refine ⟨a1,a2,?_⟩
  repeat' split at h
  all_goals first|exact h.elim|skip
  ·rename_i h1 _ _ h2; (try simp only [h1,h2]); exact ⟨h.1,hK _ h.2⟩
  ·rename_i h1 _ _ _ h2; (try simp only [h1,h2]); exact ⟨h.need.1,h.need.2,hK _ h.go⟩
 |faddr off x =>
  simp only [effQ,eff] at h ⊢
  split at h
  all_goals first|exact h.elim|(rename_i h1; (try simp only [h1]); exact hK _ h)
 |iaddr s len x i =>
  cases len with
  |none =>
   simp only [effQ,eff] at h ⊢
   repeat' split at h
   all_goals first|exact h.elim|skip
   ·rename_i h1 _ _ _ _ h2; (try simp only [h1,h2]); exact ⟨h.need.1,h.need.2.1,h.need.2.2,hK _ h.go⟩
   ·rename_i h1 _ _ _ _ h2 _ _ _ h3; (try simp only [h1,h2,h3]); exact ⟨h.need.1,h.need.2.1,h.need.2.2,hK _ h.go⟩
  |some l =>
   simp only [effQ,eff] at h ⊢
   split at h
   ·rename_i h1
    (try simp only [h1])
    refine ⟨h.need.1,h.need.2,?_⟩
    have h:=h.go
    split at h
    all_goals first|exact h.elim|(rename_i h2; (try simp only [h2]); exact hK _ h)
   ·exact h.elim
 |field agg off n x =>
  simp only [effQ,eff] at h ⊢
  split at h
  all_goals first|exact h.elim|(rename_i h1; (try simp only [h1]); exact ⟨h.1,hK _ h.2⟩)
 |index agg s len x i =>
  simp only [effQ,eff] at h ⊢
  split at h
  all_goals first|exact h.elim|(rename_i h1 h2; (try simp only [h1,h2]); exact ⟨h.1,h.2.1,h.2.2.1,hK _ h.2.2.2⟩)
 |sidx x i =>
  simp only [effQ,eff] at h ⊢
  split at h
  all_goals first|exact h.elim|(rename_i h1 h2; (try simp only [h1,h2]); exact ⟨h.1,h.2.1,hK _ h.2.2⟩)
 |ext k x =>
  simp only [effQ,eff] at h ⊢
  split at h
  all_goals first|exact h.elim|(rename_i h1; (try simp only [h1]); exact ⟨h.1,hK _ h.2⟩)
 |bin op x y =>
  simp only [effQ,eff] at h ⊢
  split at h
  all_goals first|exact h.elim|(rename_i h1 h2; (try simp only [h1,h2]); exact ⟨h.1,binQ_sound h.2 fun v=>hK _⟩)
 |eqs ng x y =>
  simp only [effQ,eff] at h ⊢
  split at h
  all_goals first|exact h.elim|skip
  rename_i h1 h2; (try simp only [h1,h2])
  have:=hK _ h.h
  cases ng <;> simpa using this
 |eqb ng x y =>
  simp only [effQ,eff] at h ⊢
  split at h
  all_goals first|exact h.elim|(rename_i h1 h2; (try simp only [h1,h2]); exact hK _ h)
 |eqa ng ks x y =>
  have ex:∀ t,(bif ng then !t else t)=(ng ^^ t):=fun t=>by cases ng <;> cases t <;> rfl
  simp only [effQ,eff,ex] at h ⊢
  split at h
  ·rename_i h1 h2
   (try simp only [h1,h2])
   obtain ⟨⟨b,h3,h4⟩⟩:=h
   simp only [h3]
   exact hK _ h4
  ·exact h.elim
 |not x =>
  simp only [effQ,eff] at h ⊢
  split at h
  all_goals first|exact h.elim|(rename_i h1; (try simp only [h1]); exact hK _ h)
 |neg x =>
  simp only [effQ,eff] at h ⊢
  split at h
  all_goals first|exact h.elim|(rename_i h1; (try simp only [h1]); exact hK _ h)
 |len x =>
  simp only [effQ,eff] at h ⊢
  split at h
  ·rename_i h1; (try simp only [h1]); exact hK _ h.go
  ·rename_i h1; (try simp only [h1]); exact hK _ h.go
  ·rename_i h1; (try simp only [h1]); exact hK _ h
  ·exact h.elim
 |slen x =>
  simp only [effQ,eff] at h ⊢
  split at h
  all_goals first|exact h.elim|(rename_i h1; (try simp only [h1]); exact hK _ h)
 |app s bytes x y mode =>
  simp only [effQ] at h
  split at h
  ·rename_i h1; exact appQ_sound (by simp [h1,srcRows,h.1]) h.2 hK
  ·rename_i h1; exact appQ_sound (by simp [h1,srcRows]) h hK
  ·rename_i h1
   split at h
   ·rename_i h2; exact appQ_sound (by simp [h1,srcRows,h2,h.1]) h.2.go hK
   ·exact h.elim
  ·exact h.elim
 |slice s x lo hi =>
  revert h
  have key:∀ L:V,(match x.ev st,L with
   |.sl f s' rows,.int _ l=>match hi with
    |none=>s'=s/\Lt (fun _=>0<=l/\l<=rows.length) (fun _=>rows.drop l.toNat) fun rows=>K (st.put d (.sl f s rows))
    |some h=>match h.ev st with
     |.int _ h=>s'=s/\Lt (fun _=>0<=l/\l<=h/\h<=rows.length) (fun _=>(rows.take h.toNat).drop l.toNat) fun rows=>K (st.put d (.sl f s rows))
     |_=>False
   |.sref r i n,.int _ l=>match st.heap r,(match hi with|none=>V.int .i64 n|some h=>h.ev st) with
    |.rows s' _,.int _ h=>s'=s/\Lt (fun _=>0<=l/\l<=h/\h<=n) (fun _=>(i+l.toNat,h.toNat - l.toNat)) fun p=>K (st.put d (.sref r p.1 p.2))
    |_,_=>False
   |_,_=>False)->(match x.ev st,L with
   |.sl f s' rows,.int _ l=>match (match hi with|none=>V.int .i64 rows.length|some h=>h.ev st) with
    |.int _ h=>s'=s/\0<=l/\l<=h/\h<=rows.length/\K' (st.put d (.sl f s ((rows.take h.toNat).drop l.toNat)))
    |_=>False
   |.sref r i n,.int _ l=>match st.heap r,(match hi with|none=>V.int .i64 n|some h=>h.ev st) with
    |.rows s' _,.int _ h=>s'=s/\0<=l/\l<=h/\h<=n/\K' (st.put d (.sref r (i+l.toNat) (h.toNat - l.toNat)))
    |_,_=>False
   |_,_=>False):=by
   intro L h
   generalize x.ev st=X at h ⊢
   cases X <;> first|exact h.elim|skip
   ·cases L <;> first|exact h.elim|skip
    rename_i r i n _ l
    simp only at h ⊢
    generalize (match hi with|none=>V.int .i64 n|some h=>h.ev st)=H at h ⊢
    generalize st.heap r=O at h ⊢
    cases O <;> first|exact h.elim|skip
    cases H <;> first|exact h.elim|exact ⟨h.1,h.2.need.1,h.2.need.2.1,h.2.need.2.2,hK _ h.2.go⟩
   ·cases L <;> first|exact h.elim|skip
    cases hi with
    |none =>
     obtain ⟨a,b,c⟩:=h
     refine ⟨a,b.1,b.2,Int.le_refl _,?_⟩
     have:=hK _ c
     simpa using this
    |some hh =>
     simp only at h ⊢
     generalize hh.ev st=H at h ⊢
     cases H <;> first|exact h.elim|exact ⟨h.1,h.2.need.1,h.2.need.2.1,h.2.need.2.2,hK _ h.2.go⟩
  exact fun h=>key _ h
 |sslice x lo hi =>
  revert h
  have key:∀ L:V,(match x.ev st,L with
   |.str b,.int _ l=>match (match hi with|none=>V.int .i64 b.size|some h=>h.ev st) with
    |.int _ h=>0<=l/\l<=h/\h<=b.size/\K (st.put d (.str (b.extract l.toNat h.toNat)))
    |_=>False
   |_,_=>False)->(match x.ev st,L with
   |.str b,.int _ l=>match (match hi with|none=>V.int .i64 b.size|some h=>h.ev st) with
    |.int _ h=>0<=l/\l<=h/\h<=b.size/\K' (st.put d (.str (b.extract l.toNat h.toNat)))
    |_=>False
   |_,_=>False):=by
   intro L h
   generalize x.ev st=X at h ⊢
   cases X <;> first|exact h.elim|skip
   cases L <;> first|exact h.elim|skip
   rename_i b _ l
   simp only at h ⊢
   generalize (match hi with|none=>V.int .i64 b.size|some h=>h.ev st)=H at h ⊢
   cases H <;> first|exact h.elim|exact ⟨h.1,h.2.1,h.2.2.1,hK _ h.2.2.2⟩
  exact fun h=>key _ h
 |mks s bytes z n mode =>
  simp only [effQ,eff] at h ⊢
  split at h
  ·rename_i h1; (try simp only [h1]); exact ⟨h.need.1,h.need.2.1,h.need.2.2,newQ_sound h.go hK⟩
  ·exact h.elim
 |mkf f first caps=>exact hK _ h
 |max x y =>
  simp only [effQ,eff] at h ⊢
  split at h
  all_goals first|exact h.elim|skip
  rename_i h1 h2
  simp only [h1,h2]
  refine ⟨h.1,?_⟩
  have h3:=hK _ h.2.h
  rename_i k a k' b
  by_cases hlt:a < b
  ·rw [decide_eq_true hlt] at h3; simpa [hlt] using h3
  ·rw [decide_eq_false hlt] at h3; simpa [hlt] using h3
 |min x y =>
  simp only [effQ,eff] at h ⊢
  split at h
  all_goals first|exact h.elim|skip
  rename_i h1 h2
  simp only [h1,h2]
  refine ⟨h.1,?_⟩
  have h3:=hK _ h.2.h
  rename_i k a k' b
  by_cases hlt:b < a
  ·rw [decide_eq_true hlt] at h3; simpa [hlt] using h3
  ·rw [decide_eq_false hlt] at h3; simpa [hlt] using h3
 |call f args objs=>exact callQ_sound h hK
 |cut s x hi mode =>
  simp only [effQ,eff] at h ⊢
  split at h
  ·rename_i h1 h2
   simp only [h1,h2]
   split at h
   ·rename_i h3
    simp only [h3]
    obtain ⟨q1,q2,h⟩:=h
    refine ⟨q1,q2,h.need.1,h.need.2.1,h.need.2.2,?_⟩
    have h:=h.go
    cases mode with
    |none=>exact hK _ h
    |some r'=>exact ⟨h.1,hK _ h.2⟩
   ·exact h.elim
  ·exact h.elim
 |clr s z x =>
  simp only [effQ,eff] at h ⊢
  split at h
  ·rename_i h1
   simp only [h1]
   split at h
   ·rename_i h2
    simp only [h2]
    exact ⟨h.1,hK _ h.2.go⟩
   ·exact h.elim
  ·exact h.elim
 |callp f args cands =>
  simp only [effQ,eff] at h ⊢
  split at h
  ·rename_i h1; simp only [h1]; exact callQ_sound h hK
  ·exact h.elim
 |calln x args objs =>
  simp only [effQ,eff] at h ⊢
  split at h
  ·rename_i h1; (try simp only [h1]); exact ⟨h.c,h.k.1,h.k.2.1,callQ_sound h.k.2.2 hK⟩
  ·exact h.elim
 |niltest ng x =>
  have ex:∀ t,(bif ng then !t else t)=(ng ^^ t):=fun t=>by cases ng <;> cases t <;> rfl
  simp only [effQ,eff,ex] at h ⊢
  split at h
  ·rename_i h1; (try simp only [h1]); exact ⟨fun e=>⟨hK _ (h.h.1 e).1,hK _ (h.h.1 e).2⟩,fun e=>hK _ (h.h.2 e)⟩
  ·rename_i h1; (try simp only [h1]); exact ⟨hK _ (h.h.1 rfl).1,hK _ (h.h.1 rfl).2⟩
  ·rename_i h1; (try simp only [h1]); exact ⟨hK _ (h.h.1 rfl).1,hK _ (h.h.1 rfl).2⟩
  ·exact h.elim
 |mkm r=>exact ⟨h.1,hK _ h.2⟩
 |mget kd z x k =>
  simp only [effQ,eff] at h ⊢
  split at h
  ·rename_i h1
   simp only [h1]
   split at h
   ·rename_i h2
    simp only [h2]
    exact ⟨h.need.1,h.need.2,hK _ h.go⟩
   ·exact h.elim
  ·exact h.elim
 |mlen x =>
  simp only [effQ,eff] at h ⊢
  split at h
  ·rename_i h1
   simp only [h1]
   split at h
   ·rename_i h2
    simp only [h2]
    exact hK _ h.go
   ·exact h.elim
  ·exact h.elim
 |mset kd x k v =>
  simp only [effQ,eff] at h ⊢
  split at h
  ·rename_i h1
   simp only [h1]
   split at h
   ·rename_i h2
    simp only [h2]
    exact ⟨h.n.1,h.n.2.1,h.n.2.2.1,h.n.2.2.2,hK _ h.h⟩
   ·exact h.elim
  ·exact h.elim
 |mput f x g k n =>
  simp only [effQ,eff] at h ⊢
  split at h
  ·rename_i h1 h2 h3 h4
   simp only [h1,h2,h3,h4]
   split at h
   ·rename_i h5
    simp only [h5]
    obtain ⟨⟨n1,n2,rows,n3,n4⟩,h⟩:=h
    simp only [n3]
    refine ⟨n1,n2,n4,hK _ ?_⟩
    simpa only [mgrow,n3,Option.getD_some] using h
   ·exact h.elim
  ·exact h.elim
 |loadb n x =>
  simp only [effQ,eff] at h ⊢
  repeat' split at h
  all_goals first|exact h.elim|skip
  rename_i h1 _ _ h2; (try simp only [h1,h2]); exact ⟨h.1,hK _ h.2⟩
 |nilchk x =>
  simp only [effQ,eff] at h ⊢
  split at h
  all_goals first|exact h.elim|(rename_i h1; (try simp only [h1]); exact hK _ h)
def effGQ (P:Program) (L:List (List V)->Nat) (o:Op') (st:St) (K:St->Prop):Prop :=
 match o.guard with
 |none=>effQ P L o.op o.dst st K
 |some (t,w)=>match st.env t,w with
  |.bool true,true=>effQ P L o.op o.dst st K
  |.bool false,false=>effQ P L o.op o.dst st K
  |.bool true,false=>K (st.put o.dst (.tup []))
  |.bool false,true=>K (st.put o.dst (.tup []))
  |.tup [],_=>K (st.put o.dst (.tup []))
  |_,_=>False
theorem effGQ_sound {o:Op'} (h:effGQ P List.length o st K) (hK:∀ s,K s->K' s):effG P o st K':=by
 unfold effGQ at h
 unfold effG
 split at h
 ·rename_i h1; simp only [h1]; exact effQ_sound h hK
 ·rename_i t w h1
  simp only [h1]
  split at h
  ·rename_i hb; simp only [hb]; exact ⟨fun _=>by rw [put_self hb]; exact effQ_sound h hK,fun e=>by cases e⟩
  ·rename_i hb; simp only [hb]; exact ⟨fun _=>by rw [put_self hb]; exact effQ_sound h hK,fun e=>by cases e⟩
  ·rename_i hb; simp only [hb]; exact ⟨(fun e=>by cases e),fun _=>by rw [Bool.not_false,put_self hb]; exact hK _ h⟩
  ·rename_i hb; simp only [hb]; exact ⟨(fun e=>by cases e),fun _=>by rw [Bool.not_true,put_self hb]; exact hK _ h⟩
  ·rename_i hb; simp only [hb]; exact hK _ h
  ·exact h.elim
def opsQ (P:Program) (L:List (List V)->Nat):List Op'->St->(St->Prop)->Prop
 |[],st,K=>K st
 |o::l,st,K=>effGQ P L o st fun st'=>opsQ P L l st' K
theorem opsQ_sound:∀ {l:List Op'} {st:St} {K K':St->Prop},opsQ P List.length l st K->(∀ s,K s->K' s)->wpOps P l st K'
 |[],_,_,_,h,hK=>hK _ h
 |_::_,_,_,_,h,hK=>effGQ_sound h fun _ h'=>opsQ_sound h' hK
def quietB (o:Op') (st:St):Bool :=
 match o.op with
 |.store _ _ _=>false
 |.niltest _ _=>false
 |.callp _ _ _=>false
 |.cut _ _ _ _=>false
 |.mset _ _ _ _=>false
 |.mput _ _ _ _ _=>false
 |.clr _ _ _=>false
 |.app _ _ x _ _=>match x.ev st with|.nils _=>true|_=>false
 |.call _ args _=>args.all Pm.isRo
 |.calln _ args _=>args.all Pm.isRo
 |_=>true
theorem quietB_iff {o:Op'} (h:quietB o st=true):quiet o st:=by
 obtain ⟨d,o,g⟩:=o
 cases o with
 |store n x v=>simp [quietB] at h
 |callp f args cands=>simp [quietB] at h
 |cut s x hi mode=>simp [quietB] at h
 |niltest ng x=>simp [quietB] at h
 |mset kd x k v=>simp [quietB] at h
 |mput f x g k n=>simp [quietB] at h
 |clr s z x=>simp [quietB] at h
 |app s b x y m =>
  simp only [quietB] at h
  split at h
  ·rename_i h2; exact ⟨_,h2⟩
  ·cases h
 |call f args objs=>exact h
 |calln x args objs=>exact h
 |_=>trivial
def opsQD (P:Program) (L:List (List V)->Nat):List (Op'×Nat)->St->(St->Prop)->Prop
 |[],st,K=>K st
 |o::l,st,K=>match (match o.2 with|1=>quietB o.1 st|4=>boxedB o.1 st|5=>rowedB o.1 st|6=>slicedB o.1 st|_=>true) with
  |true=>effGQ P L o.1 st fun st'=>opsQD P L l st' K
  |false=>False
theorem opsQD_sound:∀ {l:List (Op'×Nat)} {st:St} {K K':St->Prop},opsQD P List.length l st K->(∀ s,K s->K' s)->wpOpsD P l st K'
 |[],_,_,_,h,hK=>hK _ h
 |_ :: _,_,_,_,h,hK=>by
  simp only [opsQD] at h
  split at h
  ·rename_i h1
   exact ⟨⟨fun e=>by rw [e] at h1; exact quietB_iff h1,fun e=>by rw [e] at h1; exact h1,fun e=>by rw [e] at h1; exact h1,fun e=>by rw [e] at h1; exact h1⟩,effGQ_sound h fun _ h'=>opsQD_sound h' hK⟩
  ·exact h.elim
structure Join (c:(St->Prop)->Prop) (k:St->Prop):Prop where
 h:∃ J:St->Prop,c J/\∀ st,J st->k st
structure LoopQ (st:St) (body:St->(St->Prop)->Prop):Prop where
 h:∃ (I:St->Nat->Prop) (m:Nat),I st m/\∀ st m,I st m->body st fun st'=>∃ m',m' < m/\I st' m'
theorem LoopQ.to {ι:Type} {st:St} {body:St->(St->Prop)->Prop} (S:ι->St) (ok:ι->Prop) (mu:ι->Nat) (i0:ι) (h0:ok i0) (e0:st=S i0)
  (round:∀ i,ok i->∀ A:St->Prop,(∀ j st',ok j->mu j < mu i->st'=S j->A st')->body (S i) A):LoopQ st body :=
 ⟨fun st m=>∃ i,ok i/\st=S i/\m=mu i,mu i0,⟨i0,h0,e0,rfl⟩,fun st m ⟨i,hi,e1,e2⟩=>by
  subst e1 e2
  exact round i hi _ fun j st' hj hlt e=>⟨mu j,hlt,j,hj,e,rfl⟩⟩
structure RngQ (P:Program) (f:FuncId) (caps:List V) (k:Nat) (st:St) (body:St->List V->(St->Prop)->Prop) (N:St->Prop):Prop where
 h
  : ∃ xs:List (List V),YieldsV P f caps xs/\(∀ vs∈xs,vs.length=k/\V.closedL vs=true)/\∃ I:List (List V)->St->Prop,I [] st /\
  (∀ (pre:List (List V)) (vs:List V),vs∈xs->(∀ ys∈pre,ys∈xs)->pre.length < xs.length->∀ st,I pre st->body st vs fun st'=>I (pre ++ [vs]) st')/\∀ st,I xs st->N st
theorem RngQ.to {P:Program} {f:FuncId} {caps:List V} {k:Nat} {st:St} {body:St->List V->(St->Prop)->Prop} {N:St->Prop} {ι:Type} {xs:List (List V)} (hY:YieldsV P f caps xs) (hx:∀ vs∈xs,vs.length=k/\V.closedL vs=true)
  (S:ι->St) (ok:List (List V)->ι->Prop) (i0:ι) (h0:ok [] i0) (e0:st=S i0)
  (round:∀ (pre:List (List V)) (vs:List V) i,vs∈xs->(∀ ys∈pre,ys∈xs)->pre.length < xs.length->ok pre i->∀ A:St->Prop,(∀ j st',ok (pre ++ [vs]) j->st'=S j->A st')->body (S i) vs A)
  (done:∀ i,ok xs i->N (S i)):RngQ P f caps k st body N :=
 ⟨xs,hY,hx,fun pre st=>∃ i,ok pre i/\st=S i,⟨i0,h0,e0⟩,fun pre vs h1 h2 h3 st ⟨i,hi,e⟩=>by
  subst e
  exact round pre vs i h1 h2 h3 hi _ fun j st' hj e=>⟨j,hj,e⟩,fun st ⟨i,hi,e⟩=>by subst e; exact done i hi⟩
def codeQ (P:Program) (L:List (List V)->Nat):C->St->(St->Prop)->(Nat->St->Prop)->(St->Prop)->Prop
 |.skip,st,N,_,_=>N st
 |.ret,st,_,_,R=>R st
 |.exit id,st,_,X,_=>X id st
 |.reg names ops,st,N,_,_=>opsQ P L ops (st.kills names) N
 |.regd names ops,st,N,_,_=>opsQD P L ops (st.kills names) N
 |.seq a b,st,N,X,R=>codeQ P L a st (fun st=>codeQ P L b st N X R) X R
 |.cond x a b,st,N,X,R=>match x.ev st with
  |.bool true=>codeQ P L a st N X R
  |.bool false=>codeQ P L b st N X R
  |_=>False
 |.blk id b,st,N,X,R=>codeQ P L b st N (fun i st=>bif Nat.beq i id then N st else X i st) R
 |.loop keep objs b,st,_,X,R=>LoopQ (st.keep keep objs) fun st A=>codeQ P L b st (fun st=>A (st.keep keep objs)) X R
 |.fgt stop keep objs b,st,N,X,R=>match stop with
  |false=>codeQ P L b st (fun st=>N (st.keep keep objs)) X R
  |true=>Join (fun J=>codeQ P L b st (fun st=>J (st.keep keep objs)) X R) N
 |.rng x ps mvs keep objs b,st,N,_,_=>match x.ev st with
  |.fn f [] caps=>CanQ P f (V.closedL caps=true/\RngQ P f caps ps.length (st.keep keep objs) (fun st vs A=>codeQ P L b ((st.puts ps vs).moves mvs) (fun st=>A (st.keep keep objs)) (fun _ _=>False) (fun _=>False)) N)
  |_=>False
theorem codeQ_sound:∀ {c:C} {st:St} {N:St->Prop} {X:Nat->St->Prop} {R:St->Prop} {Q:Ex->St->Prop},codeQ P List.length c st N X R->(∀ s,N s->Q .normal s)->(∀ i s,X i s->Q (.exit i) s)->(∀ s,R s->Q .ret s)->wpC P c st Q
 |.skip,_,_,_,_,_,h,hN,_,_=>hN _ h
 |.ret,_,_,_,_,_,h,_,_,hR=>hR _ h
 |.exit _,_,_,_,_,_,h,_,hX,_=>hX _ _ h
 |.reg _ _,_,_,_,_,_,h,hN,_,_=>opsQ_sound h fun _ h'=>hN _ h'
 |.regd _ _,_,_,_,_,_,h,hN,_,_=>opsQD_sound h fun _ h'=>hN _ h'
 |.seq a b,_,_,_,_,_,h,hN,hX,hR=>codeQ_sound (c:=a) h (fun _ h'=>codeQ_sound (c:=b) h' hN hX hR) hX hR
 |.cond x a b,st,_,_,_,_,h,hN,hX,hR=>by
  simp only [codeQ] at h
  simp only [wpC]
  split at h
  ·rename_i h1; simp only [h1]; exact ⟨fun e=>codeQ_sound h hN hX hR,fun e=>by cases e⟩
  ·rename_i h1; simp only [h1]; exact ⟨(fun e=>by cases e),fun e=>codeQ_sound h hN hX hR⟩
  ·exact h.elim
 |.blk id b,_,_,_,_,_,h,hN,hX,hR=>codeQ_sound (c:=b) h (fun _ h'=>hN _ h') (fun i _ h'=>by
   simp only at h' ⊢
   by_cases e:i=id
   ·subst e
    rw [if_pos rfl]
    simp only [Nat.beq_refl,cond_true] at h'
    exact hN _ h'
   ·rw [if_neg e]
    have:Nat.beq i id=false:=by cases hb:Nat.beq i id with|true=>exact (e (Nat.eq_of_beq_eq_true hb)).elim|false=>rfl
    rw [this] at h'
    exact hX _ _ h') hR
 |.loop keep objs b,st,_,_,_,_,h,_,hX,hR=>by
  obtain ⟨I,m,h0,hr⟩:=h
  exact ⟨I,⟨m,h0⟩,fun st m hI=>codeQ_sound (c:=b) (hr st m hI) (fun _ h'=>h') hX hR⟩
 |.fgt stop keep objs b,st,_,_,_,_,h,hN,hX,hR=>by
  cases stop with
  |false=>exact codeQ_sound (c:=b) h (fun _ h'=>hN _ h') hX hR
  |true =>
   obtain ⟨J,h1,h2⟩:=h
   exact codeQ_sound (c:=b) h1 (fun _ h'=>hN _ (h2 _ h')) hX hR
 |.rng x ps mvs keep objs b,st,_,_,_,_,h,hN,_,_=>by
  simp only [codeQ] at h
  simp only [wpC]
  split at h
  ·rename_i f caps h1
   simp only [h1]
   obtain ⟨a1,a2,⟨xs,b1,b2,I,b3,b4,b5⟩⟩:=h
   exact ⟨a1,a2,xs,b1,b2,I,b3,fun pre vs q1 q2 q3 st hI=>codeQ_sound (c:=b) (b4 pre vs q1 q2 q3 st hI) (fun _ h'=>h') (fun _ _ h'=>h'.elim) (fun _ h'=>h'.elim),fun st hI=>hN _ (b5 st hI)⟩
  ·exact h.elim
theorem Join.to {c:(St->Prop)->Prop} {k:St->Prop} (J:St->Prop) (h:c J) (h':∀ st,J st->k st):Join c k:=⟨J,h,h'⟩
theorem Lt.len {n:Nat} {K:Int->Prop} (k:∀ v:Int,0<=v/\v.toNat=n->K v):Lt (fun _=>True) (fun _=>(n:Int)) K:=⟨trivial,k _ ⟨by omega,by omega⟩⟩
theorem Lt.wr {z:Int} {K:Int->Prop} (h:-9223372036854775808<=z) (h':z < 9223372036854775808) (k:∀ v,v=z->K v):Lt (fun _=>True) (fun _=>IntKind.i64.wrap z) K :=
 ⟨trivial,k _ (by rw [IntKind.wrap_i64]; omega)⟩
theorem Lt.rem {a b:Int} {K:Int->Prop} (h:0<=a) (h':0 < b) (k:∀ v,v=a % b->K v):Lt (fun _=>b≠0) (fun _=>a.tmod b) K :=
 ⟨by omega,k _ (Int.tmod_eq_emod_of_nonneg h)⟩
theorem Lt.quo {a b:Int} {K:Int->Prop} (h:0<=a) (h2:a < 9223372036854775808) (h':0 < b) (k:∀ v,v=a / b->K v):Lt (fun _=>b≠0) (fun _=>IntKind.i64.wrap (a.tdiv b)) K:=by
 have h3:0<=a / b:=Int.ediv_nonneg h (by omega)
 have h4:a / b<=a:=Int.ediv_le_self _ h
 exact ⟨by omega,k _ (by rw [Int.tdiv_eq_ediv_of_nonneg h,IntKind.wrap_i64]; omega)⟩
theorem callsV_q {P:Program} (hD:RegD P) {f:FuncId} {fn:Func} (hf:P.funcs[f]?=some fn) {t:FnT} (hok:okFn P fn t=true) {args:List V} {res:V} {outs:List V} {fr:Bool}
  (hl:args.length=t.k) (hio:iosOk t.pins 0 args=true) (hsh:args.map V.sh=args)
  (h:∀ (P':Program) (R:St->Prop),P'=P->(∀ st,Leave args t.rvs res outs fr st->R st)->codeQ P' List.length t.body (St.enter args t.ns) R (fun _ _=>False) R) (hnm:args.all V.noMap=true:=by rfl):CallsV P f args res outs fr :=
 callsV_fn hD hf hok hl hio hsh (codeQ_sound (h P (fun st=>Leave args t.rvs res outs fr st) rfl fun _ h=>h) (fun _ h=>⟨.inl rfl,h⟩) (fun _ _ h=>h.elim) (fun _ h=>⟨.inr rfl,h⟩)) hnm
end Go.Ab

namespace Go.Ab
open Go
theorem IfLt.y {a b:Int} {K:Bool->Prop} (k:K true) (h:a < b:=by omega):IfLt a b K:=.t h k
theorem IfLt.n {a b:Int} {K:Bool->Prop} (k:K false) (h:¬ a < b:=by omega):IfLt a b K:=.f (by omega) k
theorem IfLe.y {a b:Int} {K:Bool->Prop} (k:K true) (h:a<=b:=by omega):IfLe a b K:=.t h k
theorem IfLe.n {a b:Int} {K:Bool->Prop} (k:K false) (h:¬ a<=b:=by omega):IfLe a b K:=.f (by omega) k
theorem IfEq.y {a b:Int} {K:Bool->Prop} (k:K true) (h:a=b:=by omega):IfEq a b K:=.t h k
theorem IfEq.n {a b:Int} {K:Bool->Prop} (k:K false) (h:¬ a=b:=by omega):IfEq a b K:=.f (by omega) k
theorem Lt.wn {z v:Int} {K:Int->Prop} (hv:v=z) (k:K v) (h:-9223372036854775808<=z:=by omega) (h':z < 9223372036854775808:=by omega):Lt (fun _=>True) (fun _=>IntKind.i64.wrap z) K:=by
 subst hv
 exact .wr h h' fun w hw=>hw ▸ k
theorem Lt.ra {a b:Int} {K:Int->Prop} (k:∀ v,v=a % b->K v) (h:0<=a:=by omega) (h':0 < b:=by omega):Lt (fun _=>b≠0) (fun _=>a.tmod b) K:=.rem h h' k
theorem Lt.ln {n:Nat} {K:Int->Prop} {k:Int} (h:0<=k/\k.toNat=n) (c:K k):Lt (fun _=>True) (fun _=>(n:Int)) K:=⟨trivial,by
 have:(n:Int)=k:=by omega
 rw [this]; exact c⟩
theorem Lt.row {s s':Nat} {i:Int} {rows:List (List V)} {row:List V} {K:List V->Prop} (g:rows.getD i.toNat []=row) (k:K row) (h0:s'=s:=by rfl) (h1:0<=i:=by omega) (h2:i.toNat < rows.length:=by omega) :
 Lt (fun _=>s'=s/\0<=i/\i.toNat < rows.length) (fun _=>rows.getD i.toNat []) K:=⟨⟨h0,h1,h2⟩,by rw [g]; exact k⟩
theorem CallQ.go {P:Program} {f:FuncId} {need:Unit->Prop} {as as':List V} {asx:Unit->List V} {plain:Bool} {K:V->Prop} {res:V} {outs:List V} {fr:Bool} (hc:CallsV P f as' res outs fr) (k:K res) (h:as=as':=by rfl)
 (hp:plain=true\/fr=true:=by first|exact .inl rfl|exact .inr rfl) (hn:need ():=by repeat' first|exact True.intro|exact rfl|assumption|refine ⟨?_,?_⟩):CallQ P f need as asx plain K:=.to hc h hp k hn
theorem IfLt.s {a b:Int} {K:Bool->Prop} (y:a < b->K true) (n:b<=a->K false):IfLt a b K:=.split y n
theorem IfLe.s {a b:Int} {K:Bool->Prop} (y:a<=b->K true) (n:b < a->K false):IfLe a b K:=.split y n
theorem IfEq.s {a b:Int} {K:Bool->Prop} (y:a=b->K true) (n:a≠b->K false):IfEq a b K:=.split y n
theorem IfStr.s {a b:ByteArray} {K:Bool->Prop} (y:a=b->K true) (n:a≠b->K false):IfStr a b K:=.split y n
theorem EqQ.s {ks:List Nat} {l m:List V} {K:Bool->Prop} (y:eqsP l m->K true) (n:¬ eqsP l m->K false) (h:intsB ks l m=true:=by rfl):EqQ ks l m K:=.ints h y n
structure Na {α:Type} (p:Unit->Prop) (x:Unit->α) (q:α->Prop):Prop where
 need:p ()
 is:q (x ())
theorem Na.wr {z:Int} (h:-9223372036854775808<=z) (h':z < 9223372036854775808):Na (fun _=>True) (fun _=>IntKind.i64.wrap z) (fun v=>v=z):=by
 refine ⟨trivial,?_⟩
 have:Lt (fun _=>True) (fun _=>IntKind.i64.wrap z) (fun v=>v=z):=.wr h h' fun _ e=>e
 exact this.go
theorem Na.rem {a b:Int} (h:0<=a) (h':0 < b):Na (fun _=>b≠0) (fun _=>a.tmod b) (fun v=>v=a % b):=by
 have:Lt (fun _=>b≠0) (fun _=>a.tmod b) (fun v=>v=a % b):=.rem h h' fun _ e=>e
 exact ⟨this.need,this.go⟩
theorem Na.quo {a b:Int} (h:0<=a) (h2:a < 9223372036854775808) (h':0 < b):Na (fun _=>b≠0) (fun _=>IntKind.i64.wrap (a.tdiv b)) (fun v=>v=a / b):=by
 have:Lt (fun _=>b≠0) (fun _=>IntKind.i64.wrap (a.tdiv b)) (fun v=>v=a / b):=.quo h h2 h' fun _ e=>e
 exact ⟨this.need,this.go⟩
theorem Na.len {n:Nat}:Na (fun _=>True) (fun _=>(n:Int)) (fun v=>0<=v/\v.toNat=n):=⟨trivial,by omega,by omega⟩
theorem Na.all {α:Type} {p:Unit->Prop} {x:Unit->α} (h:p ()):Na p x (fun v=>v=x ()):=⟨h,rfl⟩
theorem Lt.a {α:Type} {p:Unit->Prop} {x:Unit->α} {K q:α->Prop} (k:∀ v,q v->K v)
 (h:Na p x q:=by first|exact .wr (by omega) (by omega)|exact .rem (by omega) (by omega)|exact .quo (by omega) (by omega) (by omega)|exact .len|exact .all True.intro):Lt p x K:=⟨h.1,k _ h.2⟩
theorem Lt.e {α:Type} {p:Unit->Prop} {x:Unit->α} {K:α->Prop} (k:∀ v,v=x ()->K v) (h:p ():=by exact ⟨rfl,by decide⟩):Lt p x K:=⟨h,k _ rfl⟩
theorem Lt.d {α:Type} {p:Unit->Prop} {x:Unit->α} {K:α->Prop} (k:K (x ())) (h:p ():=by decide):Lt p x K:=⟨h,k⟩
theorem AppL.u {n bytes c:Nat} {rs ys:List (List V)} {K:List (List V)->Nat->Prop} (k:∀ v m,v=rs ++ ys->m=v.length->v.length=c->K v m)
 (e:rs.length+ys.length=c:=by first|((try simp only [List.length_cons,List.length_nil]); rfl)|simp only [List.length_cons,List.length_nil]) (h1:n=rs.length:=by first|rfl|assumption|omega)
 (h2:(rs.length+ys.length) * bytes<=140737488355328:=by first|omega|(simp only [List.length_cons,List.length_nil]; omega)):AppL n bytes (fun _=>rs) (fun _=>ys) K:=.to h1 h2 fun v m a b d=>k v m a b (d.trans e)
theorem Lt.ix {s s':Nat} {i:Int} {m j k:Nat} {K:Nat->Prop} (hk:j+i.toNat=k) (c:K k) (h0:s'=s:=by rfl) (h1:0<=i:=by omega) (h2:i.toNat < m:=by omega) :
 Lt (fun _=>s'=s/\0<=i/\i.toNat < m) (fun _=>j+i.toNat) K:=⟨⟨h0,h1,h2⟩,by rw [hk]; exact c⟩
theorem Lt.el {n s k:Nat} {rs:List (List V)} {row:List V} {K:List V->Prop} (g:rs.getD k []=row) (c:K row) (h:n<=s:=by decide):Lt (fun _=>n<=s) (fun _=>rs.getD k []) K:=⟨h,by rw [g]; exact c⟩
theorem Lt.sl {l:Int} {n i a b:Nat} {K:Nat×Nat->Prop} (h:(i+l.toNat,n - l.toNat)=(a,b)) (c:K (a,b)) (h0:0<=l:=by omega) (h1:l.toNat<=n:=by omega) :
  Lt (fun _=>0<=l/\l<=Int.ofNat n/\Int.ofNat n<=((n:Nat):Int)) (fun _=>(i+l.toNat,(Int.ofNat n).toNat - l.toNat)) K :=
 ⟨⟨h0,by rw [Int.ofNat_eq_natCast]; omega,by rw [Int.ofNat_eq_natCast]; omega⟩,by rw [show (Int.ofNat n).toNat=n by rfl,h]; exact c⟩
theorem Lt.stx {rs rs':List (List V)} {i off n s:Nat} {cs:List V} {K:List (List V)->Prop} (h:rs.set i (setR (rs.getD i []) off cs)=rs') (c:K rs') (hp:V.closedL cs=true/\n<=s:=by exact ⟨rfl,by decide⟩) :
 Lt (fun _=>V.closedL cs=true/\n<=s) (fun _=>rs.set i (setR (rs.getD i []) off cs)) K:=⟨hp,by rw [h]; exact c⟩
structure Nv {α:Type} (p:Unit->Prop) (x:Unit->α) (v:α):Prop where
 need:p ()
 is:x ()=v
theorem Nv.row {s s':Nat} {i:Int} {rows:List (List V)} {row:List V} (g:rows.getD i.toNat []=row) (h0:s'=s) (h1:0<=i) (h2:i.toNat < rows.length):Nv (fun _=>s'=s/\0<=i/\i.toNat < rows.length) (fun _=>rows.getD i.toNat []) row:=⟨⟨h0,h1,h2⟩,g⟩
theorem Nv.ln {n:Nat} {k:Int} (h:0<=k/\k.toNat=n):Nv (fun _=>True) (fun _=>(n:Int)) k:=⟨trivial,by omega⟩
theorem Nv.wn {z v:Int} (hv:v=z) (h:-9223372036854775808<=z) (h':z < 9223372036854775808):Nv (fun _=>True) (fun _=>IntKind.i64.wrap z) v:=⟨trivial,(Na.wr h h').is.trans hv.symm⟩
theorem Nv.stx {rs rs':List (List V)} {i off n s:Nat} {cs:List V} (h:rs.set i (setR (rs.getD i []) off cs)=rs') (hp:V.closedL cs=true/\n<=s):Nv (fun _=>V.closedL cs=true/\n<=s) (fun _=>rs.set i (setR (rs.getD i []) off cs)) rs':=⟨hp,h⟩
theorem Nv.ix {s s':Nat} {i:Int} {m j k:Nat} (hk:j+i.toNat=k) (h0:s'=s) (h1:0<=i) (h2:i.toNat < m):Nv (fun _=>s'=s/\0<=i/\i.toNat < m) (fun _=>j+i.toNat) k:=⟨⟨h0,h1,h2⟩,hk⟩
theorem Nv.el {n s k:Nat} {rs:List (List V)} {row:List V} (g:rs.getD k []=row) (h:n<=s):Nv (fun _=>n<=s) (fun _=>rs.getD k []) row:=⟨h,g⟩
theorem Lt.r {α:Type} {p:Unit->Prop} {x:Unit->α} {K:α->Prop} {v:α} (k:K v)
 (h:Nv p x v:=by first|exact .row (by assumption) (by rfl) (by omega) (by omega)|exact .ln (by assumption)|exact .wn (by assumption) (by omega) (by omega)|exact .stx (by assumption) (by exact ⟨rfl,by decide⟩)|exact .ix (by assumption) (by rfl) (by omega) (by omega)|exact .el (by assumption) (by decide)):Lt p x K:=⟨h.1,h.2 ▸ k⟩
theorem CallQ.x {P:Program} {f:FuncId} {need:Unit->Prop} {as as':List V} {asx:Unit->List V} {plain:Bool} {K:V->Prop} {res:V} {outs:List V} {fr:Bool} (k:K res) (hc:CallsV P f as' res outs fr:=by assumption) (h:as=as':=by rfl)
 (hp:plain=true\/fr=true:=by first|exact .inl rfl|exact .inr rfl) (hn:need ():=by repeat' first|exact True.intro|exact rfl|assumption|refine ⟨?_,?_⟩):CallQ P f need as asx plain K:=.to hc h hp k hn
theorem CallI.x {P:Program} {f:FuncId} {need:Unit->Prop} {as as':List V} {plain noio:Bool} {ok:List V->Bool} {K:V->List V->Prop} {res:V} {outs:List V} {fr:Bool} (k:K res outs) (hc:CallsV P f as' res outs fr:=by assumption) (h:as=as':=by rfl)
  (hp:plain=true\/(fr=true/\noio=true):=by first|exact .inl rfl|exact .inr ⟨rfl,rfl⟩) (ho:ok outs=true:=by rfl) (hn:need ():=by repeat' first|exact True.intro|exact rfl|assumption|refine ⟨?_,?_⟩):CallI P f need as plain noio ok K :=
 CallI.go hc k h hp ho hn
theorem CallQ.gq {P:Program} {f:FuncId} {need:Unit->Prop} {as as':List V} {asx:Unit->List V} {plain:Bool} {K:V->Prop} {res:V} {outs:List V} {fr:Bool} (hc:CallsV P f as' res outs fr) (k:K res) (h:as=as':=by rfl)
 (hp:plain=true\/fr=true:=by first|exact .inl rfl|exact .inr rfl) (hn:need ():=by repeat' first|exact True.intro|exact rfl|assumption|refine ⟨?_,?_⟩):CallQ P f need as asx plain K:=.to hc h hp k hn
end Go.Ab

namespace Go.Ab
open Go Go.RowKit
def V.read:V->Bool
 |.own _ _=>false
 |.io _=>false
 |.ownm _ _=>false
 |_=>true
theorem read_lists {w:World}:∀ {args:List V} {vs:List Value},args.all V.read=true->listA (ownsA w) args vs=[]/\listA boxA args vs=[]/\∀ b off,¬ anyC args vs b off
 |[],vs,_=>⟨by cases vs <;> rfl,by cases vs <;> rfl,fun b off=>by cases vs <;> exact id⟩
 |a::l,[],_=>⟨rfl,rfl,fun b off=>id⟩
 |a :: l,v::vs,h=>by
  simp only [List.all_cons,Bool.and_eq_true] at h
  obtain ⟨h1,h2,h3⟩:=read_lists (w:=w) (vs:=vs) h.2
  have e:ownsA w a v=[]/\boxA a v=[]/\∀ b off,¬ boxC a v b off:=by
   cases a <;> first|exact ⟨rfl,rfl,fun b off=>id⟩|(simp [V.read] at h)
  refine ⟨by simp only [listA,h1,e.1,List.append_nil],by simp only [listA,h2,e.2.1,List.append_nil],fun b off hc=>?_⟩
  rcases hc with hc|hc
  ·exact e.2.2 b off hc
  ·exact h3 b off hc
theorem sameBut_eqL {W:Nat->Prop} (hW:∀ off,¬ W off):∀ {o o':Option Obj},sameBut W o o'->o'=o
 |some (.cells c e fr),some (.cells c' e' fr'),⟨h1,h2,h3,h4⟩=>by
  subst h1 h2
  have:c'=c:=Array.ext_getElem? fun i=>h4 i (hW i)
  rw [this]
 |none,o',h=>h
 |some (.cells _ _ _),none,h=>h
 |some (.cells c e fr),some (.map ..),h=>h
 |some (.cells c e fr),some o',h=>by
  cases o' with
  |cells c' e' fr' =>
   obtain ⟨h1,h2,h3,h4⟩:=h
   subst h1 h2
   have:c'=c:=Array.ext_getElem? fun i=>h4 i (hW i)
   rw [this]
  |_=>exact h
 |some o,o',h=>by
  cases o with
  |cells c e fr =>
   cases o' with
   |none=>exact h
   |some o' =>
    cases o' with
    |cells c' e' fr' =>
     obtain ⟨h1,h2,h3,h4⟩:=h
     subst h1 h2
     have:c'=c:=Array.ext_getElem? fun i=>h4 i (hW i)
     rw [this]
    |_=>exact h
  |_=>exact h
theorem Frame.below {w w':World} {W:Nat->Nat->Prop} (h:Frame w w' W) (hW:∀ b off,¬ W b off):Below w.heap.size w w' :=
 ⟨h.os,h.tape,h.output,h.size,fun k hk=>sameBut_eqL (hW k) (h.same k hk)⟩
theorem CallsV.run {P:Program} {f:FuncId} {args:List V} {res:V} {outs:List V} {fr:Bool} (h:CallsV P f args res outs fr) {vs:List Value} {w:World} {F:Nat->Nat->Prop}
  (hl:args.length=vs.length) (hp:args.all V.read=true) (hF:∀ b off,F b off->b < w.heap.size)
  (hR:∀ (i:Nat) (a:V),args[i]?=some a->RA (bare w F fun b=>w.heap.size<=b) a (vs.getD i undef)) :
  Calls P f vs.toArray w fun e w'=>∃ (v:Value) (F':Nat->Nat->Prop),e=.returned v/\RB (bare w' F' fun b=>w.heap.size<=b) res v/\Below w.heap.size w w'/\(∀ b∈ownsR res v,w.heap.size<=b):=by
 obtain ⟨h1,h2,h3⟩:=read_lists (w:=w) (vs:=vs) hp
 have hW:∀ b off,¬ writable w args vs b off:=fun b off hw=>by
  rcases hw with hw|hw
  ·rw [h1] at hw; cases hw
  ·exact h3 b off hw
 intro cs
 obtain ⟨e,w',fr',⟨v,Fr,he,hpost⟩,rest⟩:=h w F (fun b=>w.heap.size<=b) vs hl hR (by rw [h1,h2]; exact List.nodup_nil) (by rw [h1]; simp) (by rw [h2]; simp) (fun _ h=>h)
  (fun b off hb=>⟨hF b off hb,hW b off⟩) cs
 refine ⟨e,w',fr',⟨v,_,he,hpost.rres,hpost.frame.below hW,fun b hb=>?_⟩,rest⟩
 have:=(hpost.own b (List.mem_append.2 (.inl hb))).1
 rcases this with h|h
 ·exact h
 ·rw [h1] at h; cases h
theorem sameBut_reflL (W:Nat->Prop):∀ o:Option Obj,sameBut W o o
 |none=>rfl
 |some o=>by cases o <;> first|exact ⟨rfl,rfl,rfl,fun _ _=>rfl⟩|rfl
theorem undef_lists {w:World}:∀ (args:List V) (vs:List Value),listA (ownsA w) (args.map fun _=>V.undef) vs=[]/\listA boxA (args.map fun _=>V.undef) vs=[]/\∀ b off,¬ anyC (args.map fun _=>V.undef) vs b off:=fun args vs =>
 read_lists (by simp [V.read])
end Go.Ab

namespace Go.Ab
open Go
def V.notIo:V->Bool
 |.io _=>false
 |_=>true
theorem outL_plain {st:St}:∀ {args:List V} {i:Nat},args.all V.notIo=true->outL st i args=args.map (fun _=>.undef)/\outAll (outOk st) i args=true/\outCat (outNames st) i args=[]/\outCat (outBox st) i args=[]
 |[],_,_=>⟨rfl,rfl,rfl,rfl⟩
 |v :: l,i,h=>by
  simp only [List.all_cons,Bool.and_eq_true] at h
  obtain ⟨h1,h2,h3,h4⟩:=outL_plain (st:=st) (i:=i+1) h.2
  cases v <;> first
   |(simp [V.notIo] at h; done)
   |exact ⟨by simp only [outL,outV,List.map_cons,h1],by simp only [outAll,outOk,h2,Bool.and_self],by simp only [outCat,outNames,h3,List.append_nil],by simp only [outCat,outBox,h4,List.append_nil]⟩
def okRows (fr:Bool) (rs:List (List V)):Bool:=rs.all fun row=>row.all fun c=>!fr||c.fresh
theorem okRows_map {α:Type} {fr:Bool} (f:α->List V) (hf:∀ x,(f x).all (fun c=>!fr||c.fresh)=true) (l:List α):okRows fr (l.map f)=true:=by
 unfold okRows
 rw [List.all_map]
 exact List.all_eq_true.2 fun x _=>hf x
theorem Leave.own {args:List V} {t r n s:Nat} {rs rs':List (List V)} {fr:Bool} {st:St} (h1:st.env t=.sref r 0 n) (h2:st.heap r=.rows s rs) (hn:n=rs.length) (he:rs'=rs) (hf:okRows fr rs=true) (ha:args.all V.notIo=true) :
  Leave args [.t t] (.own s rs') (args.map fun _=>.undef) fr st:=by
 obtain ⟨a1,a2,a3,a4⟩:=outL_plain (st:=st) (i:=0) ha
 have hg:giveC st (.sref r 0 n)=.own s rs:=by simp [giveC,h2,hn]
 have hall:=hf
 unfold okRows at hall
 simp only [List.all_eq_true] at hall
 refine ⟨by simp [pack,RV.ev,h1,resG,hg,he],a1.symm,?_,a2,by rw [a3,a4]; simp [RV.ev,h1,V.cells,objC,nodupB,inl]⟩
 simp only [List.all_cons,List.all_nil,Bool.and_true,RV.ev,h1,V.notTup,V.cells,hg,Bool.true_and]
 simp only [okGood,List.all_eq_true]
 exact fun row hrow c hc=>hall row hrow c hc
theorem okRows_nil {fr:Bool}:okRows fr []=true:=rfl
theorem okRows_app {fr:Bool} {a b:List (List V)}:okRows fr (a ++ b)=(okRows fr a&&okRows fr b):=by simp [okRows]
theorem okRows_cons {fr:Bool} {r:List V} {b:List (List V)}:okRows fr (r::b)=((r.all fun c=>!fr||c.fresh)&&okRows fr b):=rfl
end Go.Ab

namespace Go.Ab
open Go
section
variable (L:List (List V)->Nat)
def enterAl (v:V) (ns:List Nat):V×List Nat×List (Nat×AO) :=
 match v with
 |.io cs=>match ns with
  |r::ns=>let a:=thawLl L cs ns; (.ptr r 0,a.2.1,a.2.2 ++ [(r,.box a.1)])
  |[]=>(.undef,[],[])
 |v=>thawCl L v ns
def enterLl:List V->List Nat->List V×List Nat×List (Nat×AO)
 |[],ns=>([],ns,[])
 |v::l,ns=>let a:=enterAl L v ns; let b:=enterLl l a.2.1; (a.1::b.1,b.2.1,a.2.2 ++ b.2.2)
def numb:Nat->List V->List (Nat×V)
 |_,[]=>[]
 |k,v::l=>(k,v)::numb (k+1) l
def St.enterl (args:List V) (ns:List Nat):St:=let e:=enterLl L args ns; { St.first.sets e.2.2 with env:=tab .undef (numb 0 e.1) }
def gvR (st:St) (v:V):V :=
 match v with
 |.sref r 0 _=>match st.heap r with|.rows s rs=>.own s rs|_=>.undef
 |.nils s=>.own s []
 |.mp r=>giveC st (.mp r)
 |v=>v
def gkC (st:St) (v:V) (K:Prop):Prop :=
 match v with
 |.sref r 0 n=>match st.heap r with|.rows _ rs=>n=L rs/\K|_=>False
 |.sref _ _ _=>False
 |_=>K
def gkL (st:St):List V->Prop->Prop
 |[],K=>K
 |v::l,K=>gkC L st v (gkL st l K)
def gkR (st:St):List V->Prop->Prop
 |[],K=>K
 |v::l,K=>gkL L st v.cells (gkR st l K)
end
def resL (st:St):V->V
 |.agg cs=>.agg (cs.map (gvR st))
 |v=>gvR st v
structure FrR (rows:List (List V)):Prop where
 h:okRows true rows=true
structure FrS (rows:List (List V)):Prop where
 h:V.freshR rows=true
def goodC (fr:Bool) (v:V) (K:Prop):Prop :=
 match v with
 |.own _ rows=>(match fr with|true=>FrR rows/\K|false=>K)
 |.sl f _ rows=>(match fr with|true=>f=true/\FrS rows/\K|false=>K)
 |v=>okGood (fun v=>!fr||v.fresh) v=true/\K
def goodL (fr:Bool):List V->Prop->Prop
 |[],K=>K
 |v::l,K=>goodC fr v (goodL fr l K)
def goodR (fr:Bool):List V->Prop->Prop
 |[],K=>K
 |v::l,K=>goodL fr v.cells (goodR fr l K)
def outCs (st:St):Nat->List V->List V
 |_,[]=>[]
 |i,.io _::l=>(match st.env i with
  |.ptr r 0=>match st.heap r with|.box cs'=>.agg cs'|_=>.undef
  |_=>.undef)::outCs st (i+1) l
 |i,_::l=>outCs st (i+1) l
def outLl (st:St):Nat->List V->List V
 |_,[]=>[]
 |i,.io _::l=>(match st.env i with
  |.ptr r 0=>match st.heap r with|.box cs'=>.io (cs'.map (gvR st))|_=>.undef
  |_=>.undef)::outLl st (i+1) l
 |i,_::l=>.undef::outLl st (i+1) l
def outsFit (st:St):Nat->List V->Bool
 |_,[]=>true
 |i,.io cs::l=>(match st.env i with
  |.ptr r 0=>match st.heap r with|.box cs'=>Nat.beq cs'.length cs.length|_=>false
  |_=>false)&&outsFit st (i+1) l
 |i,_::l=>outsFit st (i+1) l
structure LeaveL (L:List (List V)->Nat) (args:List V) (rvs:List RV) (res:V) (outs:List V) (fr:Bool) (st:St):Prop where
 res:pack (rvs.map fun r=>resL st (r.ev st))=res
 outs:outLl st 0 args=outs
 need:gkR L st (rvs.map (·.ev st)) (gkR L st (outCs st 0 args) True)
 ok:goodR fr (rvs.map fun r=>resL st (r.ev st)) (goodR false ((outCs st 0 args).map (resL st)) True)
 fit:((rvs.all fun r=>(r.ev st).notTup)&&outsFit st 0 args&&nodupB ((rvs.flatMap fun r=>(r.ev st).cells.flatMap objC) ++ (outCat (outNames st) 0 args ++ outCat (outBox st) 0 args)))=true
theorem gvR_eq {st:St} {v:V} {K:Prop} (h:gkC List.length st v K):gvR st v=giveC st v/\K:=by
 unfold gkC at h
 split at h
 ·rename_i r n
  split at h
  ·rename_i s rs hr
   obtain ⟨rfl,h2⟩:=h
   exact ⟨by simp only [gvR,giveC,hr,if_pos],h2⟩
  ·exact h.elim
 ·exact h.elim
 ·rename_i h1 h2
  refine ⟨?_,h⟩
  cases v with
  |sref r i n=>exact (h2 r i n rfl).elim
  |_=>rfl
theorem gvL_eq {st:St}:∀ {l:List V} {K:Prop},gkL List.length st l K->l.map (gvR st)=l.map (giveC st)/\K
 |[],_,h=>⟨rfl,h⟩
 |v::l,K,h=>by
  obtain ⟨h1,h2⟩:=gvR_eq (show gkC List.length st v (gkL List.length st l K) from h)
  obtain ⟨h3,h4⟩:=gvL_eq h2
  exact ⟨by simp only [List.map_cons,h1,h3],h4⟩
theorem resL_eq {st:St} {v:V} {K:Prop} (h:gkL List.length st v.cells K):resL st v=resG st v/\v.cells.map (gvR st)=v.cells.map (giveC st)/\K:=by
 obtain ⟨h1,h2⟩:=gvL_eq h
 refine ⟨?_,h1,h2⟩
 cases v with
 |agg cs=>simp only [resL,resG]; simp only [V.cells] at h1; rw [h1]
 |_=>simpa [V.cells,resL,resG] using h1
theorem resR_eq {st:St}:∀ {l:List V} {K:Prop},gkR List.length st l K->l.map (resL st)=l.map (resG st)/\(∀ v∈l,v.cells.map (gvR st)=v.cells.map (giveC st))/\K
 |[],_,h=>⟨rfl,by simp,h⟩
 |v :: l,K,h=>by
  obtain ⟨h1,h2,h3⟩:=resL_eq (show gkL List.length st v.cells (gkR List.length st l K) from h)
  obtain ⟨h4,h5,h6⟩:=resR_eq h3
  exact ⟨by simp only [List.map_cons,h1,h4],fun w hw=>by
   rcases List.mem_cons.1 hw with rfl|hw
   ·exact h2
   ·exact h5 w hw,h6⟩
theorem goodC_ok {fr:Bool} {v:V} {K:Prop} (h:goodC fr v K):okGood (fun v=>!fr||v.fresh) v=true/\K:=by
 unfold goodC at h
 split at h
 ·rename_i s rows
  cases fr with
  |true =>
   refine ⟨?_,h.2⟩
   have:=h.1.h
   unfold okRows at this
   simpa [okGood] using this
  |false=>exact ⟨by simp [okGood],h⟩
 ·rename_i f s rows
  cases fr with
  |true =>
   obtain ⟨rfl,h2,h3⟩:=h
   exact ⟨by simp [okGood,V.closed,V.fresh,h2.h],h3⟩
  |false=>exact ⟨by simp [okGood,V.closed],h⟩
 ·exact h
theorem goodL_ok {fr:Bool}:∀ {l:List V} {K:Prop},goodL fr l K->l.all (okGood fun v=>!fr||v.fresh)=true/\K
 |[],_,h=>⟨rfl,h⟩
 |v::l,K,h=>by
  obtain ⟨h1,h2⟩:=goodC_ok (show goodC fr v (goodL fr l K) from h)
  obtain ⟨h3,h4⟩:=goodL_ok h2
  exact ⟨by simp only [List.all_cons,h1,h3,Bool.and_self],h4⟩
theorem goodR_ok {fr:Bool}:∀ {l:List V} {K:Prop},goodR fr l K->(∀ v∈l,v.cells.all (okGood fun v=>!fr||v.fresh)=true)/\K
 |[],_,h=>⟨by simp,h⟩
 |v :: l,K,h=>by
  obtain ⟨h1,h2⟩:=goodL_ok (show goodL fr v.cells (goodR fr l K) from h)
  obtain ⟨h3,h4⟩:=goodR_ok h2
  exact ⟨fun w hw=>by
   rcases List.mem_cons.1 hw with rfl|hw
   ·exact h1
   ·exact h3 w hw,h4⟩
theorem resL_cells {st:St} (v:V) (hv:v.notTup=true):(resL st v).cells=v.cells.map (gvR st):=by
 cases v with
 |sref r i n =>
  cases i with
  |zero=>simp only [resL,gvR,V.cells,List.map_cons,List.map_nil]; cases st.heap r <;> rfl
  |succ i=>rfl
 |mp r=>simp only [resL,gvR,giveC,V.cells,List.map_cons,List.map_nil]; cases st.heap r <;> rfl
 |_=>rfl
theorem outs_eq {st:St}:∀ {args:List V} {i:Nat},(∀ v∈outCs st i args,v.cells.map (gvR st)=v.cells.map (giveC st))->outsFit st i args=true ->
  (∀ v∈(outCs st i args).map (resL st),v.cells.all (okGood fun _=>true)=true)->outLl st i args=outL st i args/\outAll (outOk st) i args=true
 |[],_,_,_,_=>⟨rfl,rfl⟩
 |v :: l,i,h1,h2,h3=>by
  have key:∀ cs,v=.io cs->outLl st i (v::l)=outL st i (v::l)/\outAll (outOk st) i (v::l)=true:=fun cs e=>by
   subst e
   simp only [outCs,List.map_cons,List.mem_cons,forall_eq_or_imp] at h1 h3
   simp only [outsFit,Bool.and_eq_true] at h2
   obtain ⟨q1,q2⟩:=outs_eq h1.2 h2.2 h3.2
   have a1:=h1.1
   have a3:=h3.1
   have a2:=h2.1
   simp only [outLl,outL,outV,outAll,outOk,q1,q2,Bool.and_true]
   split at a2
   ·rename_i r he
    simp only [he] at a1 a3 ⊢
    split at a2
    ·rename_i cs' hr
     simp only [hr] at a1 a3 ⊢
     simp only [V.cells] at a1
     simp only [resL,V.cells] at a3
     rw [a1] at a3 ⊢
     refine ⟨rfl,?_⟩
     have:cs'.length=cs.length:=Nat.eq_of_beq_eq_true a2
     simpa [this] using a3
    ·cases a2
   ·cases a2
  cases v with
  |io cs=>exact key cs rfl
  |_ =>
   obtain ⟨q1,q2⟩:=outs_eq (i:=i+1) (args:=l) (by simpa only [outCs] using h1) (by simpa only [outsFit] using h2) (by simpa only [outCs] using h3)
   exact ⟨by simp only [outLl,outL,outV,q1],by simp only [outAll,outOk,q2,Bool.and_self]⟩
theorem LeaveL.leave {args:List V} {rvs:List RV} {res:V} {outs:List V} {fr:Bool} {st:St} (h:LeaveL List.length args rvs res outs fr st):Leave args rvs res outs fr st:=by
 obtain ⟨h1,h2,h3,h4,h5⟩:=h
 obtain ⟨a1,a2,a3⟩:=resR_eq h3
 obtain ⟨_,b2,_⟩:=resR_eq a3
 obtain ⟨c1,c2⟩:=goodR_ok h4
 obtain ⟨d1,_⟩:=goodR_ok c2
 simp only [Bool.and_eq_true] at h5
 obtain ⟨⟨e1,e2⟩,e3⟩:=h5
 obtain ⟨f1,f2⟩:=outs_eq b2 e2 (by simpa using d1)
 have hres:(rvs.map fun r=>resL st (r.ev st))=rvs.map fun r=>resG st (r.ev st):=by
  rw [List.map_map,List.map_map] at a1
  exact a1
 refine ⟨by rw [<- h1,hres],by rw [<- h2,f1],?_,f2,e3⟩
 simp only [List.all_eq_true,Bool.and_eq_true] at e1 ⊢
 intro r hr
 refine ⟨e1 r hr,fun c hc=>?_⟩
 have hm:r.ev st∈rvs.map (·.ev st):=List.mem_map_of_mem (f:=(·.ev st)) hr
 have g1:=c1 (resL st (r.ev st)) (List.mem_map.2 ⟨r,hr,rfl⟩)
 rw [resL_cells _ (e1 r hr),a2 _ hm] at g1
 simp only [List.all_map,List.all_eq_true] at g1
 exact g1 c hc
theorem enterAl_eq (v:V) (ns:List Nat):enterAl List.length v ns=enterA v ns:=by
 cases v with
 |io cs=>cases ns <;> simp only [enterAl,enterA,thawLl_eq]
 |_=>simp only [enterAl,enterA,thawCl_eq]
theorem enterLl_eq:∀ (l:List V) (ns:List Nat),enterLl List.length l ns=enterL l ns
 |[],_=>rfl
 |v::l,ns=>by simp only [enterLl,enterL,enterAl_eq,enterLl_eq l]
theorem tab_numb:∀ (l:List V) (k t:Nat),tab .undef (numb k l) t=if t < k then .undef else l.getD (t - k) .undef
 |[],k,t=>by simp [numb,tab]
 |v :: l,k,t=>by
  simp only [numb,tab,tab_numb l (k+1) t]
  by_cases h:t=k
  ·subst h; simp
  ·rw [if_neg h]
   by_cases h2:t < k
   ·rw [if_pos (by omega),if_pos h2]
   ·rw [if_neg (by omega),if_neg h2,show t - k=(t - (k+1))+1 by omega]; rfl
theorem enterl_eq (args:List V) (ns:List Nat):St.enterl List.length args ns=St.enter args ns:=by
 unfold St.enterl St.enter
 simp only [enterLl_eq]
 congr 1
 funext t
 rw [tab_numb]; simp
theorem callsV_l {P:Program} (hD:RegD P) {f:FuncId} {fn:Func} (hf:P.funcs[f]?=some fn) {t:FnT} (hok:okFn P fn t=true) {args:List V} {res:V} {outs:List V} {fr:Bool}
  (hl:args.length=t.k) (hio:iosOk t.pins 0 args=true) (hsh:args.map V.sh=args)
  (h:∀ (P':Program) (L:List (List V)->Nat) (R:St->Prop),P'=P->(∀ r,L r=r.length)->(∀ st,LeaveL L args t.rvs res outs fr st->R st)->codeQ P' L t.body (St.enterl L args t.ns) R (fun _ _=>False) R) (hnm:args.all V.noMap=true:=by rfl):CallsV P f args res outs fr :=
 callsV_q hD hf hok hl hio hsh (fun P' R hP hR=>by
  have:=h P' List.length R hP (fun _=>rfl) fun st hst=>hR st hst.leave
  rwa [enterl_eq] at this) hnm
end Go.Ab
