/-
  The plain law of places: the program's map of places says what the document's counts say.
  Small functions of the program and of Go's library: clones, comparisons, numbers that may be.
-/
import Derived.Test.YtkanpbjjabdalaaK11
import Derived.Test.YtkanpbjjabdalaaK16
set_option linter.all false
namespace Go.Ab
open Go Go.Proofs
theorem find_add (M:PM) (x:Int×Int×Int) (g:Int):findM (addM M x) g=if x.1=g then some ((findM M g).getD [] ++ [x.2]) else findM M g:=by
 induction M with
 |nil=>simp only [addM,findM]; split <;> simp
 |cons e M ih =>
  simp only [addM]
  by_cases h1:e.1=x.1
  ·rw [if_pos h1]
   simp only [findM]
   by_cases h2:e.1=g
   ·rw [if_pos h2,if_pos (h1 ▸ h2),if_pos h2]; rfl
   ·rw [if_neg h2,if_neg (h1 ▸ h2),if_neg h2]
  ·rw [if_neg h1]
   simp only [findM,ih]
   by_cases h2:e.1=g
   ·rw [if_pos h2,if_neg (fun q=>h1 (h2.trans q.symm)),if_pos h2]
   ·rw [if_neg h2,if_neg h2]
def atL (L:List (Int×Int×Int)) (g:Int):List (Int×Int):=(L.filter fun x=>decide (x.1=g)).map (·.2)
theorem find_addL (L:List (Int×Int×Int)) (g:Int):∀ M:PM,findM (addL M L) g=if atL L g=[] then findM M g else some ((findM M g).getD [] ++ atL L g):=by
 induction L with
 |nil=>intro M; rfl
 |cons x L ih =>
  intro M
  show findM (addL (addM M x) L) g=_
  rw [ih,find_add]
  by_cases h:x.1=g
  ·have e:atL (x::L) g=x.2::atL L g:=by simp [atL,h]
   rw [if_pos h,e]
   by_cases h2:atL L g=[]
   ·rw [if_pos h2,if_neg (by simp),h2]
   ·rw [if_neg h2,if_neg (by simp)]; simp
  ·have e:atL (x::L) g=atL L g:=by simp [atL,h]
   rw [if_neg h,e]
theorem find_all (L:List (Int×Int×Int)) (g:Int):findM (addL [] L) g=if atL L g=[] then none else some (atL L g):=by
 rw [find_addL]
 rfl
def keysM (M:PM):List Int:=M.map (·.1)
theorem keys_add (M:PM) (x:Int×Int×Int):keysM (addM M x)=if x.1∈keysM M then keysM M else keysM M ++ [x.1]:=by
 induction M with
 |nil=>rfl
 |cons e M ih =>
  simp only [addM]
  by_cases h:e.1=x.1
  ·rw [if_pos h,if_pos (by simp [keysM,h])]; rfl
  ·rw [if_neg h]
   have:keysM (e::addM M x)=e.1::keysM (addM M x):=rfl
   rw [this,ih]
   have hm:(x.1∈keysM (e::M))↔x.1∈keysM M:=by
    simp only [keysM,List.map_cons,List.mem_cons]
    exact ⟨fun q=>q.resolve_left (fun q=>h q.symm),.inr⟩
   by_cases h2:x.1∈keysM M
   ·rw [if_pos h2,if_pos (hm.2 h2)]; rfl
   ·rw [if_neg h2,if_neg (fun q=>h2 (hm.1 q))]; rfl
theorem keys_nodup (L:List (Int×Int×Int)):∀ M:PM,(keysM M).Nodup->(keysM (addL M L)).Nodup:=by
 induction L with
 |nil=>intro M h; exact h
 |cons x L ih =>
  intro M h
  refine ih (addM M x) ?_
  rw [keys_add]
  split
  ·exact h
  ·rename_i hx
   rw [List.nodup_append]
   exact ⟨h,by simp,fun a ha b hb=>by simp at hb; subst hb; exact fun q=>hx (q ▸ ha)⟩
theorem keys_mem (L:List (Int×Int×Int)) (g:Int):∀ M:PM,g∈keysM (addL M L)↔g∈keysM M\/∃ x∈L,x.1=g:=by
 induction L with
 |nil=>intro M; simp [addL]
 |cons x L ih =>
  intro M
  show g∈keysM (addL (addM M x) L)↔_
  rw [ih,keys_add]
  constructor
  ·rintro (h|⟨y,hy,e⟩)
   ·split at h
    ·exact .inl h
    ·simp only [List.mem_append,List.mem_singleton] at h
     rcases h with h|h
     ·exact .inl h
     ·exact .inr ⟨x,by simp,h.symm⟩
   ·exact .inr ⟨y,by simp [hy],e⟩
  ·rintro (h|⟨y,hy,e⟩)
   ·left; split
    ·exact h
    ·simp [h]
   ·simp only [List.mem_cons] at hy
    rcases hy with rfl|hy
    ·left; split
     ·rename_i q; exact e ▸ q
     ·simp [e]
    ·exact .inr ⟨y,hy,e⟩
theorem nodup_le {α:Type} [DecidableEq α]:∀ (A B:List α),A.Nodup->(∀ a∈A,a∈B)->A.length<=B.length
 |[],B,_,_=>Nat.zero_le _
 |a::A,B,h,hs=>by
  rw [List.nodup_cons] at h
  have h1:=nodup_le A (B.erase a) h.2 (fun x hx=>(List.mem_erase_of_ne (fun q:x=a=>h.1 (by rw [<- q]; exact hx))).2 (hs x (by simp [hx])))
  have h2:=List.length_erase_of_mem (hs a (by simp))
  have h3:=List.length_pos_of_mem (hs a (by simp))
  simp only [List.length_cons]; omega
def upTo (n:Nat):List Int:=(List.range n).map fun i:Nat=>(i:Int)+1
theorem upTo_mem {n:Nat} {g:Int}:g∈upTo n↔1<=g/\g<=n:=by
 simp only [upTo,List.mem_map,List.mem_range]
 constructor
 ·rintro ⟨i,hi,rfl⟩; omega
 ·rintro ⟨h1,h2⟩; exact ⟨(g - 1).toNat,by omega,by omega⟩
theorem upTo_nodup (n:Nat):(upTo n).Nodup:=by
 unfold upTo
 refine List.Pairwise.map (R:=fun a b:Nat=>a≠b) _ (fun a b h q=>h (by omega)) ?_
 exact List.nodup_range
theorem keys_count {L:List (Int×Int×Int)} {n:Nat} (h:∀ g,1<=g->g<=(n:Int)->atL L g≠[]):(addL [] L).length=n↔∀ x∈L,1<=x.1/\x.1<=n:=by
 have hk:(addL [] L).length=(keysM (addL [] L)).length:=by simp [keysM]
 have hnd:=keys_nodup L [] (by simp [keysM])
 have hmem:∀ g,g∈keysM (addL [] L)↔∃ x∈L,x.1=g:=fun g=>by rw [keys_mem]; simp [keysM]
 have hin:∀ g,1<=g->g<=(n:Int)->g∈keysM (addL [] L):=fun g h1 h2=>by
  have:=h g h1 h2
  rw [hmem]
  simp only [atL,ne_eq,List.map_eq_nil_iff,List.filter_eq_nil_iff,decide_eq_true_eq,Classical.not_forall,Classical.not_not] at this
  obtain ⟨x,hx,e⟩:=this
  exact ⟨x,hx,e⟩
 have hle:=nodup_le (upTo n) _ (upTo_nodup n) (fun a ha=>by rw [upTo_mem] at ha; exact hin a ha.1 ha.2)
 have hul:(upTo n).length=n:=by simp [upTo]
 rw [hk]
 constructor
 ·intro e x hx
  have hxk:=(hmem x.1).2 ⟨x,hx,rfl⟩
  rcases Classical.em (x.1∈upTo n) with hu|hu
  ·rwa [upTo_mem] at hu
  ·have:=nodup_le (x.1::upTo n) _ (List.nodup_cons.2 ⟨hu,upTo_nodup n⟩) (fun a ha=>by
    simp only [List.mem_cons] at ha
    rcases ha with rfl|ha
    ·exact hxk
    ·rw [upTo_mem] at ha; exact hin a ha.1 ha.2)
   simp only [List.length_cons] at this
   omega
 ·intro hall
  have:=nodup_le _ (upTo n) hnd (fun a ha=>by
   obtain ⟨x,hx,rfl⟩:=(hmem a).1 ha
   rw [upTo_mem]; exact hall x hx)
  omega
theorem atL_app (A B:List (Int×Int×Int)) (g:Int):atL (A ++ B) g=atL A g ++ atL B g:=by simp [atL]
theorem atL_K (k n:Int) (l:List Int) (g:Int):atL (putsK k n l) g=List.replicate (l.count g) (k,n):=by
 induction l with
 |nil=>rfl
 |cons x l ih =>
  have hc:putsK k n (x::l)=(x,k,n)::putsK k n l:=rfl
  rw [hc]
  by_cases h:x=g
  ·have:atL ((x,k,n)::putsK k n l) g=(k,n)::atL (putsK k n l) g:=by simp [atL,h]
   rw [this,ih,h,List.count_cons_self]; rfl
  ·have:atL ((x,k,n)::putsK k n l) g=atL (putsK k n l) g:=by simp [atL,h]
   rw [this,ih,List.count_cons_of_ne h]
theorem atL_T (l:List TD) (g:Int):atL (putsT l) g=List.replicate ((l.map (·.g)).count g) (6,0):=by
 rw [<- atL_K]
 congr 1
 simp [putsT,putsK]
theorem atL_len {L:List (Int×Int×Int)} {g:Int}:(atL L g).length=(L.map (·.1)).count g:=by
 induction L with
 |nil=>rfl
 |cons x L ih =>
  simp only [List.map_cons]
  by_cases h:x.1=g
  ·have:atL (x::L) g=x.2::atL L g:=by simp [atL,h]
   rw [this,h,List.count_cons_self,List.length_cons,ih]
  ·have:atL (x::L) g=atL L g:=by simp [atL,h]
   rw [this,List.count_cons_of_ne h,ih]
theorem putsP_keys (i:Int) (p:PD):(putsP i p).map (·.1)=queueOf p:=by
 unfold putsP queueOf
 by_cases h:p.nx=0
 ·rw [if_pos h,if_pos h]; simp [Function.comp_def]
 ·rw [if_neg h,if_neg h]; simp [Function.comp_def]
theorem putsPs_keys:∀ (l:List PD) (i:Int),(putsPs i l).map (·.1)=l.flatMap queueOf
 |[],_=>rfl
 |p::l,i=>by
  simp only [putsPs,List.map_append,List.flatMap_cons,putsPs_keys l (i+1),putsP_keys]
theorem putsPs_kind:∀ (l:List PD) (i:Int) (x:Int×Int×Int),x∈putsPs i l->x.2.1=1\/x.2.1=2
 |[],_,_,h=>by simp [putsPs] at h
 |p :: l,i,x,h=>by
  simp only [putsPs,List.mem_append] at h
  rcases h with h|h
  ·simp only [putsP,List.mem_append,List.mem_map] at h
   rcases h with h|⟨g,_,rfl⟩
   ·split at h
    ·simp at h
    ·simp at h; subst h; exact .inl rfl
   ·exact .inr rfl
  ·exact putsPs_kind l (i+1) x h
theorem mem_atL {L:List (Int×Int×Int)} {g:Int} {y:Int×Int}:y∈atL L g↔(g,y)∈L:=by
 simp only [atL,List.mem_map,List.mem_filter,decide_eq_true_eq]
 constructor
 ·rintro ⟨⟨a,b⟩,⟨h1,h2⟩,h3⟩
  dsimp only at h2 h3
  subst h2 h3; exact h1
 ·intro h; exact ⟨(g,y),⟨h,rfl⟩,rfl⟩
theorem putsMs_mem:∀ (l:List MD) (i:Int) (g k n:Int),(g,k,n)∈putsMs i l↔∃ j:Nat,∃ m,l[j]?=some m/\m.g=g/\g≠0/\n=i+j+1/\((m.p≠0/\k=4)\/(m.p=0/\k=7))
 |[],_,_,_,_=>by simp [putsMs]
 |m :: l, i,g,k,n=>by
  simp only [putsMs,List.mem_append,putsMs_mem l (i+1)]
  constructor
  ·rintro (h|⟨j,m',h1,h2,h3,h4,h5⟩)
   ·unfold putsM1 at h
    split at h
    ·rename_i hg
     split at h
     ·rename_i hp
      simp only [List.mem_singleton,Prod.mk.injEq] at h
      exact ⟨0,m,rfl,h.1.symm,by rw [h.1]; exact hg,by rw [h.2.2]; simp,.inl ⟨hp,h.2.1⟩⟩
     ·rename_i hp
      simp only [List.mem_singleton,Prod.mk.injEq] at h
      exact ⟨0,m,rfl,h.1.symm,by rw [h.1]; exact hg,by rw [h.2.2]; simp,.inr ⟨by omega,h.2.1⟩⟩
    ·simp at h
   ·exact ⟨j+1,m',by simpa using h1,h2,h3,by rw [h4]; omega,h5⟩
  ·rintro ⟨j,m',h1,h2,h3,h4,h5⟩
   cases j with
   |zero =>
    simp only [List.getElem?_cons_zero,Option.some.injEq] at h1
    subst h1
    left
    unfold putsM1
    rw [if_pos (by omega)]
    rcases h5 with ⟨h5,h6⟩|⟨h5,h6⟩
    ·rw [if_pos h5]; simp; exact ⟨h2.symm,h6,by omega⟩
    ·rw [if_neg (by omega)]; simp; exact ⟨h2.symm,h6,by omega⟩
   |succ j=>exact .inr ⟨j,m',by simpa using h1,h2,h3,by omega,h5⟩
theorem kind_M (w:Bool):∀ (l:List MD) (i g:Int),((atL (putsMs i l) g).filter fun y=>decide (y.1=if w then 4 else 7)).length=((l.filter fun m=>decide (m.g≠0)&&(decide (m.p≠0) == w)).map (·.g)).count g
 |[],_,_=>rfl
 |m :: l,i,g=>by
  have ih:=kind_M w l (i+1) g
  simp only [putsMs,atL_app,List.filter_append,List.length_append,ih,List.filter_cons]
  have hone:((atL (putsM1 i m) g).filter fun y=>decide (y.1=if w then 4 else 7)).length=if (m.g≠0/\decide (m.p≠0)=w/\m.g=g) then 1 else 0:=by
   unfold putsM1
   obtain ⟨mp,mg⟩:=m
   dsimp only
   by_cases hg:mg=0
   ·simp [hg,atL]
   ·by_cases he:mg=g
    ·subst he
     by_cases hp:mp=0 <;> cases w <;> simp [hg,hp,atL]
    ·by_cases hp:mp=0 <;> cases w <;> simp [hg,hp,atL,he]
  rw [hone]
  by_cases hc:(decide (m.g≠0)&&(decide (m.p≠0) == w))=true
  ·have hc':=hc
   simp only [Bool.and_eq_true,decide_eq_true_eq,beq_iff_eq] at hc'
   by_cases he:m.g=g
   ·rw [if_pos ⟨hc'.1,hc'.2,he⟩,if_pos hc,List.map_cons,he,List.count_cons_self]; omega
   ·rw [if_neg (fun q=>he q.2.2),if_pos hc,List.map_cons,List.count_cons_of_ne he]; omega
  ·have hc':=hc
   simp only [Bool.and_eq_true,decide_eq_true_eq,beq_iff_eq] at hc'
   rw [if_neg (fun q=>hc' ⟨q.1,q.2.1⟩),if_neg hc]; omega
theorem putsMs_kind {l:List MD} {i:Int} {g:Int} {y:Int×Int} (h:y∈atL (putsMs i l) g):y.1=4\/y.1=7:=by
 rw [mem_atL] at h
 obtain ⟨k,n⟩:=y
 obtain ⟨_,_,_,_,_,_,h⟩:=(putsMs_mem l i g k n).1 h
 rcases h with h|h
 ·exact .inl h.2
 ·exact .inr h.2
theorem atL_Gs:∀ (l:List GD) (i g:Int),atL (putsGs i l) g=if i < g/\g<=i+l.length/\(l.getD (g - i - 1).toNat default).st=5 then [(8,0)] else []
 |[],i,g=>by simp only [putsGs,List.length_nil]; rw [if_neg (by omega)]; rfl
 |x :: l,i,g=>by
  simp only [putsGs,atL_app,atL_Gs l (i+1) g,List.length_cons]
  by_cases he:i+1=g
  ·have h0:(g - i - 1).toNat=0:=by omega
   rw [h0,List.getD_cons_zero]
   rw [if_neg (by omega),List.append_nil]
   unfold putsG1
   by_cases hs:x.st=5
   ·rw [if_pos hs,if_pos ⟨by omega,by omega,hs⟩]; simp [atL,he]
   ·rw [if_neg hs,if_neg (fun q=>hs q.2.2)]; rfl
  ·have h1:atL (putsG1 i x) g=[]:=by
    unfold putsG1
    split <;> simp [atL,he]
   rw [h1,List.nil_append]
   by_cases hb:i+1 < g
   ·have e1:(g - i - 1).toNat=(g - (i+1) - 1).toNat+1:=by omega
    rw [e1,List.getD_cons_succ]
    by_cases hc:g<=i+1+l.length/\(l.getD (g - (i+1) - 1).toNat default).st=5
    ·rw [if_pos ⟨by omega,hc.1,hc.2⟩,if_pos ⟨by omega,by omega,hc.2⟩]
    ·rw [if_neg (fun q=>hc ⟨q.2.1,q.2.2⟩),if_neg (fun q=>hc ⟨by omega,q.2.2⟩)]
   ·rw [if_neg (by omega),if_neg (by omega)]
end Go.Ab

namespace Go.Ab
open Go Go.Proofs
set_option maxRecDepth 100000
theorem r_CloneInstr (l:List ID) (hl:l.length<=1000000):CallsV Try.prog 83 [.sl false 2 (l.map jC)] (.own 2 (l.map jC)) [.undef] true:=by
 obtain ⟨ra,h_ra⟩ : ∃ r,r=l.map jC:=⟨_,rfl⟩
 have s_ra:V.shR ra=ra:=by rw [h_ra]; exact shR_jC l
 have l_ra:ra.length=l.length:=by simp [h_ra]
 rw [<- h_ra]
 refine callsV_q hD Try.func83 ok83 rfl rfl (by simp only [List.map_cons,List.map_nil,V.sh,V.shL,stL,s_ra]) fun P Q hP hQ=>?_
 repeat' (cbv; first|refine .y ?_|refine .n ?_|refine .s (fun hc=>?_) fun hc=>?_|refine IfNil.split (fun hc=>?_) ?_|refine .a fun v hv=>?_|refine .d ?_|refine .u fun vr vn hvr hvn hvl=>?_|fail)
 all_goals (try cbv)
 ·subst hc
  (refine hQ _ ?_; exact ⟨rfl,rfl,rfl,rfl,rfl⟩)
 ·(subst_vars; refine hQ _ ?_; exact (Leave.own rfl rfl (by simp) (by simp [jC]) (by simp [okRows_app,okRows_cons,okRows_nil,V.fresh,fr_iC,fr_jC,fr_gC,fr_pC,fr_mC,fr_tC,fr_fC,fr_iCf]) rfl))
theorem r_CloneG (l:List GD) (hl:l.length<=1000000):CallsV Try.prog 84 [.sl false 5 (l.map gC)] (.own 5 (l.map gC)) [.undef] true:=by
 obtain ⟨ra,h_ra⟩ : ∃ r,r=l.map gC:=⟨_,rfl⟩
 have s_ra:V.shR ra=ra:=by rw [h_ra]; exact shR_gC l
 have l_ra:ra.length=l.length:=by simp [h_ra]
 rw [<- h_ra]
 refine callsV_q hD Try.func84 ok84 rfl rfl (by simp only [List.map_cons,List.map_nil,V.sh,V.shL,stL,s_ra]) fun P Q hP hQ=>?_
 repeat' (cbv; first|refine .y ?_|refine .n ?_|refine .s (fun hc=>?_) fun hc=>?_|refine IfNil.split (fun hc=>?_) ?_|refine .a fun v hv=>?_|refine .d ?_|refine .u fun vr vn hvr hvn hvl=>?_|fail)
 all_goals (try cbv)
 ·subst hc
  (refine hQ _ ?_; exact ⟨rfl,rfl,rfl,rfl,rfl⟩)
 ·(subst_vars; refine hQ _ ?_; exact (Leave.own rfl rfl (by simp) (by simp [gC]) (by simp [okRows_app,okRows_cons,okRows_nil,V.fresh,fr_iC,fr_jC,fr_gC,fr_pC,fr_mC,fr_tC,fr_fC,fr_iCf]) rfl))
theorem r_CloneP (l:List PD) (hl:l.length<=1000000):CallsV Try.prog 85 [.sl false 13 (l.map pC)] (.own 13 (l.map pC)) [.undef] true:=by
 obtain ⟨ra,h_ra⟩ : ∃ r,r=l.map pC:=⟨_,rfl⟩
 have s_ra:V.shR ra=ra:=by rw [h_ra]; exact shR_pC l
 have l_ra:ra.length=l.length:=by simp [h_ra]
 rw [<- h_ra]
 refine callsV_q hD Try.func85 ok85 rfl rfl (by simp only [List.map_cons,List.map_nil,V.sh,V.shL,stL,s_ra]) fun P Q hP hQ=>?_
 repeat' (cbv; first|refine .y ?_|refine .n ?_|refine .s (fun hc=>?_) fun hc=>?_|refine IfNil.split (fun hc=>?_) ?_|refine .a fun v hv=>?_|refine .d ?_|refine .u fun vr vn hvr hvn hvl=>?_|fail)
 all_goals (try cbv)
 ·subst hc
  (refine hQ _ ?_; exact ⟨rfl,rfl,rfl,rfl,rfl⟩)
 ·(subst_vars; refine hQ _ ?_; exact (Leave.own rfl rfl (by simp) (by simp [pC]) (by simp [okRows_app,okRows_cons,okRows_nil,V.fresh,fr_iC,fr_jC,fr_gC,fr_pC,fr_mC,fr_tC,fr_fC,fr_iCf]) rfl))
theorem r_CloneM (l:List MD) (hl:l.length<=1000000):CallsV Try.prog 86 [.sl false 2 (l.map mC)] (.own 2 (l.map mC)) [.undef] true:=by
 obtain ⟨ra,h_ra⟩ : ∃ r,r=l.map mC:=⟨_,rfl⟩
 have s_ra:V.shR ra=ra:=by rw [h_ra]; exact shR_mC l
 have l_ra:ra.length=l.length:=by simp [h_ra]
 rw [<- h_ra]
 refine callsV_q hD Try.func86 ok86 rfl rfl (by simp only [List.map_cons,List.map_nil,V.sh,V.shL,stL,s_ra]) fun P Q hP hQ=>?_
 repeat' (cbv; first|refine .y ?_|refine .n ?_|refine .s (fun hc=>?_) fun hc=>?_|refine IfNil.split (fun hc=>?_) ?_|refine .a fun v hv=>?_|refine .d ?_|refine .u fun vr vn hvr hvn hvl=>?_|fail)
 all_goals (try cbv)
 ·subst hc
  (refine hQ _ ?_; exact ⟨rfl,rfl,rfl,rfl,rfl⟩)
 ·(subst_vars; refine hQ _ ?_; exact (Leave.own rfl rfl (by simp) (by simp [mC]) (by simp [okRows_app,okRows_cons,okRows_nil,V.fresh,fr_iC,fr_jC,fr_gC,fr_pC,fr_mC,fr_tC,fr_fC,fr_iCf]) rfl))
theorem r_CloneInt (l:List Int) (hl:l.length<=1000000):CallsV Try.prog 87 [.sl false 1 (l.map iC)] (.own 1 (l.map iC)) [.undef] true:=by
 obtain ⟨ra,h_ra⟩ : ∃ r,r=l.map iC:=⟨_,rfl⟩
 have s_ra:V.shR ra=ra:=by rw [h_ra]; exact shR_iC l
 have l_ra:ra.length=l.length:=by simp [h_ra]
 rw [<- h_ra]
 refine callsV_q hD Try.func87 ok87 rfl rfl (by simp only [List.map_cons,List.map_nil,V.sh,V.shL,stL,s_ra]) fun P Q hP hQ=>?_
 repeat' (cbv; first|refine .y ?_|refine .n ?_|refine .s (fun hc=>?_) fun hc=>?_|refine IfNil.split (fun hc=>?_) ?_|refine .a fun v hv=>?_|refine .d ?_|refine .u fun vr vn hvr hvn hvl=>?_|fail)
 all_goals (try cbv)
 ·subst hc
  (refine hQ _ ?_; exact ⟨rfl,rfl,rfl,rfl,rfl⟩)
 ·(subst_vars; refine hQ _ ?_; exact (Leave.own rfl rfl (by simp) (by simp [iC]) (by simp [okRows_app,okRows_cons,okRows_nil,V.fresh,fr_iC,fr_jC,fr_gC,fr_pC,fr_mC,fr_tC,fr_fC,fr_iCf]) rfl))
theorem r_CloneT (l:List TD) (hl:l.length<=1000000):CallsV Try.prog 88 [.sl false 2 (l.map tC)] (.own 2 (l.map tC)) [.undef] true:=by
 obtain ⟨ra,h_ra⟩ : ∃ r,r=l.map tC:=⟨_,rfl⟩
 have s_ra:V.shR ra=ra:=by rw [h_ra]; exact shR_tC l
 have l_ra:ra.length=l.length:=by simp [h_ra]
 rw [<- h_ra]
 refine callsV_q hD Try.func88 ok88 rfl rfl (by simp only [List.map_cons,List.map_nil,V.sh,V.shL,stL,s_ra]) fun P Q hP hQ=>?_
 repeat' (cbv; first|refine .y ?_|refine .n ?_|refine .s (fun hc=>?_) fun hc=>?_|refine IfNil.split (fun hc=>?_) ?_|refine .a fun v hv=>?_|refine .d ?_|refine .u fun vr vn hvr hvn hvl=>?_|fail)
 all_goals (try cbv)
 ·subst hc
  (refine hQ _ ?_; exact ⟨rfl,rfl,rfl,rfl,rfl⟩)
 ·(subst_vars; refine hQ _ ?_; exact (Leave.own rfl rfl (by simp) (by simp [tC]) (by simp [okRows_app,okRows_cons,okRows_nil,V.fresh,fr_iC,fr_jC,fr_gC,fr_pC,fr_mC,fr_tC,fr_fC,fr_iCf]) rfl))
theorem r_bad (n:Int) (b:Bool) (hb:b=decide (n < 0\/2305843009213693952<=n)):CallsV Try.prog 117 [.int .i64 n] (.bool b) [.undef] true:=by
 refine callsV_q hD Try.func117 ok117 rfl rfl rfl fun P Q hP hQ=>?_
 repeat' (cbv; first|refine .y ?_|refine .n ?_|refine .s (fun hc=>?_) fun hc=>?_|refine .a fun v hv=>?_|refine .d ?_|refine .u fun vr vn hvr hvn hvl=>?_|fail)
 all_goals (try cbv)
 ·have hbe:b=true:=by rw [hb]; exact decide_eq_true (by omega)
  subst hbe; refine hQ _ ?_; exact ⟨rfl,rfl,rfl,rfl,rfl⟩
 ·have hbe:b=true:=by rw [hb]; exact decide_eq_true (by omega)
  subst hbe; refine hQ _ ?_; exact ⟨rfl,rfl,rfl,rfl,rfl⟩
 ·have hbe:b=false:=by rw [hb]; exact decide_eq_false (by omega)
  subst hbe; refine hQ _ ?_; exact ⟨rfl,rfl,rfl,rfl,rfl⟩
def badAt:Int->List Int->Int
 |_,[] => -1
 |i,x::l=>if x < 0\/2305843009213693952<=x then i else badAt (i+1) l
theorem can_bad:callable Try.prog 117=true:=by kernel_rfl
theorem r_Index (l:List Int) (hl:l.length<=1000000) (z:Int) (hz:z=badAt 0 l):CallsV Try.prog 111 [.sl false 1 (l.map iC),.fn 117 [] []] (.int .i64 z) [.undef,.undef] true:=by
 obtain ⟨ra,h_ra⟩ : ∃ r,r=l.map iC:=⟨_,rfl⟩
 have s_ra:V.shR ra=ra:=by rw [h_ra]; exact shR_iC l
 have l_ra:ra.length=l.length:=by simp [h_ra]
 rw [<- h_ra]
 refine callsV_q hD Try.func111 ok111 rfl rfl (by simp only [List.map_cons,List.map_nil,V.sh,V.shL,stL,s_ra]) fun P Q hP hQ=>?_
 obtain ⟨m,hm⟩ : ∃ n:Int,0<=n/\n.toNat=ra.length:=⟨ra.length,by omega,by omega⟩
 repeat' (cbv; first|refine .y ?_|refine .n ?_|refine .s (fun hc=>?_) fun hc=>?_|refine Lt.to True.intro (show (ra.length:Int)=m by omega) ?_|refine .a fun v hv=>?_|refine .d ?_|refine .u fun vr vn hvr hvn hvl=>?_|fail)
 all_goals (try cbv)
 refine LoopQ.to (ι:=Int) (fun i=>⟨tab .undef [(0,.sl false 1 ra),(1,.fn 117 [] []),(7,.int .i64 m),(8,.int .i64 i)],tab .dead []⟩)
  (fun i=>0<=i/\i.toNat<=l.length/\z=badAt i (l.drop i.toNat)) (fun i=>l.length - i.toNat) 0 ⟨by omega,by omega,hz⟩ rfl fun i ⟨i0,i1,hi⟩ A hA=>?_
 rcases drop_cases i1 with ⟨e,hd⟩|⟨hlt,x,hd,hx⟩
 ·rw [hd] at hi
  have hz1:z = -1:=hi
  clear hi
  subst hz1
  repeat' (cbv; first|refine .y ?_|refine .n ?_|refine .s (fun hc=>?_) fun hc=>?_|refine .a fun v hv=>?_|refine .d ?_|refine .u fun vr vn hvr hvn hvl=>?_|fail)
  all_goals (try cbv)
  (refine hQ _ ?_; exact ⟨rfl,rfl,rfl,rfl,rfl⟩)
 ·rw [hd,badAt] at hi
  have ga:ra.getD i.toNat []=[.int .i64 x]:=getD_rows h_ra hx
  obtain ⟨b,hb⟩ : ∃ b,b=decide (x < 0\/2305843009213693952<=x):=⟨_,rfl⟩
  have cb:=r_bad x b hb
  cases b with
  |true =>
   rw [if_pos (by simpa using hb)] at hi
   subst hi
   try rw [<- hP] at cb
   repeat' (cbv; first|refine .y ?_|refine .n ?_|refine .s (fun hc=>?_) fun hc=>?_|refine .row ga ?_|refine CanQ.to (hP ▸ can_bad) ?_|refine .gq cb ?_|refine .a fun v hv=>?_|refine .d ?_|refine .u fun vr vn hvr hvn hvl=>?_|fail)
   all_goals (try cbv)
   (refine hQ _ ?_; exact ⟨rfl,rfl,rfl,rfl,rfl⟩)
  |false =>
   rw [if_neg (by simpa using hb)] at hi
   try rw [<- hP] at cb
   repeat' (cbv; first|refine .y ?_|refine .n ?_|refine .s (fun hc=>?_) fun hc=>?_|refine .row ga ?_|refine CanQ.to (hP ▸ can_bad) ?_|refine .gq cb ?_|refine .a fun v hv=>?_|refine .d ?_|refine .u fun vr vn hvr hvn hvl=>?_|fail)
   all_goals (try cbv)
   exact hA v _ ⟨by omega,by omega,by rw [hi,show v.toNat=i.toNat+1 by omega,hv]⟩ (by omega) rfl
theorem r_Contains (l:List Int) (hl:l.length<=1000000) (z:Int) (hz:z=badAt 0 l) (b:Bool) (hb:b=decide (0<=z)):CallsV Try.prog 116 [.sl false 1 (l.map iC),.fn 117 [] []] (.bool b) [.undef,.undef] true:=by
 have ci:=r_Index l hl z hz
 obtain ⟨ra,h_ra⟩ : ∃ r,r=l.map iC:=⟨_,rfl⟩
 have s_ra:V.shR ra=ra:=by rw [h_ra]; exact shR_iC l
 have l_ra:ra.length=l.length:=by simp [h_ra]
 rw [<- h_ra] at ci ⊢
 refine callsV_q hD Try.func116 ok116 rfl rfl (by simp only [List.map_cons,List.map_nil,V.sh,V.shL,stL,s_ra]) fun P Q hP hQ=>?_
 try rw [<- hP] at ci
 repeat' (cbv; first|refine .y ?_|refine .n ?_|refine .s (fun hc=>?_) fun hc=>?_|refine .gq ci ?_|refine .gq ci ?_|refine .a fun v hv=>?_|refine .d ?_|refine .u fun vr vn hvr hvn hvl=>?_|fail)
 all_goals (try cbv)
 ·have hbe:b=true:=by rw [hb]; exact decide_eq_true (by omega)
  subst hbe; refine hQ _ ?_; exact ⟨rfl,rfl,rfl,rfl,rfl⟩
 ·have hbe:b=false:=by rw [hb]; exact decide_eq_false (by omega)
  subst hbe; refine hQ _ ?_; exact ⟨rfl,rfl,rfl,rfl,rfl⟩
theorem r_fit (n:Int) (b:Bool) (hb:b=decide (0<=n/\n < 2305843009213693952)):CallsV Try.prog 107 [.sl false 1 [[.int .i64 n]]] (.bool b) [.undef] true:=by
 obtain ⟨c,hc⟩ : ∃ c,c=!b:=⟨_,rfl⟩
 have cc:=r_Contains [n] (by simp) _ rfl c (by
  rw [hc,hb,badAt,badAt]
  by_cases h:n < 0\/2305843009213693952<=n
  ·rw [if_pos h,decide_eq_false (by omega)]; rfl
  ·rw [if_neg h,decide_eq_true (by omega)]; rfl)
 simp only [List.map_cons,List.map_nil,iC] at cc
 clear hb
 refine callsV_q hD Try.func107 ok107 rfl rfl rfl fun P Q hP hQ=>?_
 cases b
 all_goals
  subst hc
  try rw [<- hP] at cc
  repeat' (cbv; first|refine .y ?_|refine .n ?_|refine .s (fun hc=>?_) fun hc=>?_|refine .gq cc ?_|refine .a fun v hv=>?_|refine .d ?_|refine .u fun vr vn hvr hvn hvl=>?_|fail)
  all_goals (try cbv)
  (refine hQ _ ?_; exact ⟨rfl,rfl,rfl,rfl,rfl⟩)
theorem r_nan (n:Int):CallsV Try.prog 126 [.int .i64 n] (.bool false) [.undef] true:=by
 refine callsV_q hD Try.func126 ok126 rfl rfl rfl fun P Q hP hQ=>?_
 repeat' (cbv; first|refine .y ?_|refine .n ?_|refine .s (fun hc=>?_) fun hc=>?_|refine .a fun v hv=>?_|refine .d ?_|refine .u fun vr vn hvr hvn hvl=>?_|fail)
 all_goals (try cbv)
 (refine hQ _ ?_; exact ⟨rfl,rfl,rfl,rfl,rfl⟩)
def cmpI (a b:Int):Int:=if a < b then -1 else if b < a then 1 else 0
theorem r_cmp (a b z:Int) (hz:z=cmpI a b):CallsV Try.prog 125 [.int .i64 a,.int .i64 b] (.int .i64 z) [.undef,.undef] true:=by
 have n1:=r_nan a
 have n2:=r_nan b
 unfold cmpI at hz
 refine callsV_q hD Try.func125 ok125 rfl rfl rfl fun P Q hP hQ=>?_
 try rw [<- hP] at n1
 try rw [<- hP] at n2
 repeat' (cbv; first|refine .y ?_|refine .n ?_|refine .s (fun hc=>?_) fun hc=>?_|refine .gq n1 ?_|refine .gq n2 ?_|refine .a fun v hv=>?_|refine .d ?_|refine .u fun vr vn hvr hvn hvl=>?_|fail)
 all_goals (try cbv)
 ·rw [if_pos (by omega)] at hz; subst hz; (refine hQ _ ?_; exact ⟨rfl,rfl,rfl,rfl,rfl⟩)
 ·rw [if_neg (by omega),if_pos (by omega)] at hz; subst hz; (refine hQ _ ?_; exact ⟨rfl,rfl,rfl,rfl,rfl⟩)
 ·rw [if_neg (by omega),if_neg (by omega)] at hz; subst hz; (refine hQ _ ?_; exact ⟨rfl,rfl,rfl,rfl,rfl⟩)
theorem r_Or (a b z:Int) (hz:z=if a≠0 then a else b):CallsV Try.prog 124 [.sl false 1 [[.int .i64 a],[.int .i64 b]]] (.int .i64 z) [.undef] true:=by
 refine callsV_q hD Try.func124 ok124 rfl rfl rfl fun P Q hP hQ=>?_
 repeat' (cbv; first|refine .y ?_|refine .n ?_|refine .s (fun hc=>?_) fun hc=>?_|refine Lt.to True.intro (rfl:((2:Nat):Int)=2) ?_|refine .a fun v hv=>?_|refine .d ?_|refine .u fun vr vn hvr hvn hvl=>?_|fail)
 all_goals (try cbv)
 refine LoopQ.to (ι:=Int) (fun i=>⟨tab .undef [(3,.int .i64 0),(6,.sl false 1 [[.int .i64 a],[.int .i64 b]]),(7,.int .i64 2),(8,.int .i64 i)],tab .dead []⟩)
  (fun i=>(i=0)\/(i=1/\a=0)\/(i=2/\a=0/\b=0)) (fun i=>(2 - i).toNat) 0 (.inl rfl) rfl fun i hi A hA=>?_
 rcases hi with rfl|⟨rfl,h1⟩|⟨rfl,h1,h2⟩
 ·repeat' (cbv; first|refine .y ?_|refine .n ?_|refine .s (fun hc=>?_) fun hc=>?_|refine Lt.to ⟨rfl,by omega,by simp⟩ (v:=[.int .i64 a]) rfl ?_|refine .a fun v hv=>?_|refine .d ?_|refine .u fun vr vn hvr hvn hvl=>?_|fail)
  all_goals (try cbv)
  all_goals first
   |(exact hA v _ (.inr (.inl ⟨hv,by omega⟩)) (by omega) rfl)
   |(rw [if_pos (by omega)] at hz; subst hz; (refine hQ _ ?_; exact ⟨rfl,rfl,rfl,rfl,rfl⟩))
 ·repeat' (cbv; first|refine .y ?_|refine .n ?_|refine .s (fun hc=>?_) fun hc=>?_|refine Lt.to ⟨rfl,by omega,by simp⟩ (v:=[.int .i64 b]) rfl ?_|refine .a fun v hv=>?_|refine .d ?_|refine .u fun vr vn hvr hvn hvl=>?_|fail)
  all_goals (try cbv)
  all_goals first
   |(exact hA v _ (.inr (.inr ⟨hv,h1,by omega⟩)) (by omega) rfl)
   |(rw [if_neg (by omega)] at hz; subst hz; (refine hQ _ ?_; exact ⟨rfl,rfl,rfl,rfl,rfl⟩))
 ·repeat' (cbv; first|refine .y ?_|refine .n ?_|refine .s (fun hc=>?_) fun hc=>?_|refine .a fun v hv=>?_|refine .d ?_|refine .u fun vr vn hvr hvn hvl=>?_|fail)
  all_goals (try cbv)
  rw [if_neg (by omega),h2] at hz; subst hz; (refine hQ _ ?_; exact ⟨rfl,rfl,rfl,rfl,rfl⟩)
def cmpT (x y:TD):Int:=if cmpI x.t y.t≠0 then cmpI x.t y.t else cmpI x.g y.g
theorem r_compare (x y:TD) (z:Int) (hz:z=cmpT x y):CallsV Try.prog 118 [.agg (tC x),.agg (tC y)] (.int .i64 z) [.undef,.undef] true:=by
 obtain ⟨xt,xg⟩:=x
 obtain ⟨yt,yg⟩:=y
 unfold cmpT at hz
 dsimp only at hz
 obtain ⟨a,ha⟩ : ∃ a,a=cmpI xt yt:=⟨_,rfl⟩
 obtain ⟨b,hb⟩ : ∃ b,b=cmpI xg yg:=⟨_,rfl⟩
 rw [<- ha,<- hb] at hz
 have ca:=r_cmp xt yt a ha
 have cb:=r_cmp xg yg b hb
 have co:=r_Or a b z hz
 clear hz ha hb
 refine callsV_q hD Try.func118 ok118 rfl rfl rfl fun P Q hP hQ=>?_
 try rw [<- hP] at ca
 try rw [<- hP] at cb
 try rw [<- hP] at co
 repeat' (cbv; first|refine .y ?_|refine .n ?_|refine .s (fun hc=>?_) fun hc=>?_|refine .gq ca ?_|refine .gq cb ?_|refine .gq co ?_|refine .a fun v hv=>?_|refine .d ?_|refine .u fun vr vn hvr hvn hvl=>?_|fail)
 all_goals (try cbv)
 (refine hQ _ ?_; exact ⟨rfl,rfl,rfl,rfl,rfl⟩)
end Go.Ab
