/-
  Each operation of the abstract machine is what the model's operation does: results that thaw; alloc.
  Each operation of the abstract machine is what the model's operation does: append.
  Each operation of the abstract machine is what the model's operation does: equality.
  What a callee reads through its arguments.
  Calls: what is known less of; the memory behind a call.
  Calls: the arguments.
-/
import Derived.ChangeKeysEq
import Derived.Laws.StructEq
import Derived.Test.YtkanpbjjabdalaaK2
set_option linter.all false
namespace Go.Ab
open Go
variable {E:Ent} {n:Sz} {C:Ctx} {st:St} {a:Act} {P:Program}
theorem sets_append (st:St):∀ (l m:List (Nat×AO)),st.sets (l ++ m)=(st.sets l).sets m
 |[],_=>rfl
 |(r,o)::l,m=>sets_append (st.set r o) l m
theorem Thawed.refl (h:Inv E n C st a) {ns:List Nat} (hdead:∀ r∈ns,(st.heap r).isDead=true) {os:List Nat}:Thawed E n C st a os ns (ns,[]) C :=
 ⟨h,rfl,h.le_grow (Ext.refl _) (fun _ _ h=>h),fun _ hb _=>hb,List.Sublist.refl _,hdead,fun _ _=>rfl,fun _ _ _ h=>h,rfl,fun _ _ h1 h2=>.inl ⟨h1,h2⟩⟩
theorem Thawed.comp {os1 os2 ns ns1 ns2:List Nat} {x1 x2:List (Nat×AO)} {C1 C2:Ctx} (h1:Thawed E n C st a os1 ns (ns1,x1) C1) (h2:Thawed E n C1 (st.sets x1) a os2 ns1 (ns2,x2) C2) :
  Thawed E n C st a (os1 ++ os2) ns (ns2,x1 ++ x2) C2:=by
 refine ⟨by simp only [sets_append]; exact h2.inv,h2.w.trans h1.w,h1.le.trans h2.le,fun b hb hn=>?_,h2.sub.trans h1.sub,fun r hr=>by simp only [sets_append]; exact h2.dead r hr,fun r hr=>?_,fun b off hn hx=>?_,h2.G.trans h1.G,fun r L q1 q2=>?_⟩
 ·simp only [List.mem_append,not_or] at hn
  exact h2.free b (h1.free b hb hn.1) hn.2
 ·simp only [sets_append]
  exact (h2.other r fun h=>hr (h1.sub.subset h)).trans (h1.other r hr)
 ·simp only [List.mem_append,not_or] at hn
  exact h1.F b off hn.1 (h2.F b off hn.2 hx)
 ·rcases h2.obj r L q1 q2 with ⟨q3,q4⟩|q3
  ·rcases h1.obj r L q3 q4 with q5|q5
   ·exact .inl q5
   ·exact .inr (List.mem_append_left _ q5)
  ·exact .inr (List.mem_append_right _ q3)
theorem thawL_sound:∀ (l:List V) (us:List Value) (ns:List Nat) {C:Ctx} {st:St},Inv E n C st a->l.length=us.length->(∀ (j:Nat) (c:V),l[j]?=some c->RB1 C c (us.getD j undef)) ->
  (∀ b∈ownsL l us,Free E C b)->(ownsL l us).Nodup->ns.Nodup->(∀ r∈ns,(st.heap r).isDead=true)->(ns≠[]->∀ b,E.Mb b) ->
  ∃ C',Thawed E n C st a (ownsL l us) ns (thawL l ns).2 C'/\(thawL l ns).1.length=us.length/\∀ (j:Nat) (c:V),(thawL l ns).1[j]?=some c->R C' c (us.getD j undef)
 |[],[],ns,C,st,h,_,_,_,_,_,hd,_=>⟨C,Thawed.refl h hd,rfl,fun j c hj=>by simp [thawL] at hj⟩
 |[],_::_,_,_,_,_,hl,_,_,_,_,_,_=>by simp at hl
 |_::_,[],_,_,_,_,hl,_,_,_,_,_,_=>by simp at hl
 |v :: l,u::us,ns,C,st,h,hl,hr,hf,hnd,hns,hd,hmb=>by
  simp only [ownsL,List.nodup_append] at hnd
  obtain ⟨_,hnd2,hdj⟩:=hnd
  obtain ⟨C1,t1,r1⟩:=thawC_sound h (hr 0 v rfl) (fun b hb=>hf b (by simp only [ownsL,List.mem_append]; exact .inl hb)) hns hd (fun _=>hmb)
  have hr':∀ (j:Nat) (c:V),l[j]?=some c->RB1 C1 c (us.getD j undef):=fun j c hj=>RB1_mono t1.le t1.w (by simpa using hr (j+1) c (by simpa using hj))
  have hf':∀ b∈ownsL l us,Free E C1 b:=fun b hb=>t1.free b (hf b (by simp only [ownsL,List.mem_append]; exact .inr hb)) fun hb'=>hdj b hb' b hb rfl
  obtain ⟨C2,t2,l2,r2⟩:=thawL_sound l us (thawC v ns).2.1 t1.inv (by simpa using hl) hr' hf' hnd2 (t1.sub.nodup hns) t1.dead (fun hne=>hmb fun e=>hne (List.sublist_nil.1 (by rw [<- e]; exact t1.sub)))
  refine ⟨C2,t1.comp t2,by simp [thawL,l2],fun j c hj=>?_⟩
  cases j with
  |zero =>
   simp only [thawL,List.getElem?_cons_zero,Option.some.injEq] at hj
   subst hj
   exact r1.mono t2.le
  |succ j=>simpa using r2 j c (by simpa [thawL] using hj)
theorem thaw2_other {v:V} {ns:List Nat} (h:∀ cs,v≠.agg cs):thaw2 v ns=thawC v ns:=by
 unfold thaw2; split <;> first|exact absurd rfl (h _)|rfl
theorem RB2_other {v:V} {u:Value} (h:∀ cs,v≠.agg cs):RB2 C v u=RB1 C v u:=by
 unfold RB2; split <;> first|exact absurd rfl (h _)|rfl
theorem owns2_other {v:V} {u:Value} (h:∀ cs,v≠.agg cs):owns2 v u=owns1 v u:=by
 unfold owns2; split <;> first|exact absurd rfl (h _)|rfl
theorem RB2_mono {C':Ctx} (hc:Le C C') (hw:C'.w=C.w) {c:V} {u:Value} (h:RB2 C c u):RB2 C' c u:=by
 by_cases hcc:∃ cs,c=.agg cs
 ·obtain ⟨cs,rfl⟩:=hcc
  obtain ⟨us,h1,h2,h3,h4⟩:=h
  exact ⟨us,h1,h2,h3,fun j c hj=>RB1_mono hc hw (h4 j c hj)⟩
 ·have hne:∀ cs,c≠.agg cs:=fun cs e=>hcc ⟨cs,e⟩
  rw [RB2_other hne] at h ⊢
  exact RB1_mono hc hw h
theorem thaw2_sound {c:V} {u:Value} {ns:List Nat} (h:Inv E n C st a) (hR:RB2 C c u) (hown:∀ b∈owns2 c u,Free E C b) (hnd:(owns2 c u).Nodup) (hns:ns.Nodup) (hdead:∀ r∈ns,(st.heap r).isDead=true) (hmb:ns≠[]->∀ b,E.Mb b) :
  ∃ C',Thawed E n C st a (owns2 c u) ns (thaw2 c ns).2 C'/\R C' (thaw2 c ns).1 u:=by
 by_cases hcc:∃ cs,c=.agg cs
 ·obtain ⟨cs,rfl⟩:=hcc
  obtain ⟨us,rfl,h2,h3,h4⟩:=hR
  have e:owns2 (.agg cs) (.agg us.toArray)=ownsL cs us:=by simp [owns2]
  rw [e] at hown hnd ⊢
  obtain ⟨C',t,l,r⟩:=thawL_sound cs us ns h h2 h4 hown hnd hns hdead hmb
  exact ⟨C',t,.agg _ us l h3 r⟩
 ·have hne:∀ cs,c≠.agg cs:=fun cs e=>hcc ⟨cs,e⟩
  rw [RB2_other hne] at hR
  rw [owns2_other hne] at hown ⊢
  rw [thaw2_other hne]
  exact thawC_sound h hR hown hns hdead (fun _=>hmb)
theorem thawT_sound:∀ (l:List V) (us:List Value) (ns:List Nat) {C:Ctx} {st:St},Inv E n C st a->l.length=us.length->(∀ (j:Nat) (c:V),l[j]?=some c->RB2 C c (us.getD j undef)) ->
  (∀ b∈ownsT2 l us,Free E C b)->(ownsT2 l us).Nodup->ns.Nodup->(∀ r∈ns,(st.heap r).isDead=true)->(ns≠[]->∀ b,E.Mb b) ->
  ∃ C',Thawed E n C st a (ownsT2 l us) ns (thawT l ns).2 C'/\(thawT l ns).1.length=us.length/\∀ (j:Nat) (c:V),(thawT l ns).1[j]?=some c->R C' c (us.getD j undef)
 |[],[],ns,C,st,h,_,_,_,_,_,hd,_=>⟨C,Thawed.refl h hd,rfl,fun j c hj=>by simp [thawT] at hj⟩
 |[],_::_,_,_,_,_,hl,_,_,_,_,_,_=>by simp at hl
 |_::_,[],_,_,_,_,hl,_,_,_,_,_,_=>by simp at hl
 |v :: l,u::us,ns,C,st,h,hl,hr,hf,hnd,hns,hd,hmb=>by
  simp only [ownsT2,List.nodup_append] at hnd
  obtain ⟨hnd1,hnd2,hdj⟩:=hnd
  obtain ⟨C1,t1,r1⟩:=thaw2_sound h (hr 0 v rfl) (fun b hb=>hf b (by simp only [ownsT2,List.mem_append]; exact .inl hb)) hnd1 hns hd hmb
  have hr':∀ (j:Nat) (c:V),l[j]?=some c->RB2 C1 c (us.getD j undef):=fun j c hj=>RB2_mono t1.le t1.w (by simpa using hr (j+1) c (by simpa using hj))
  have hf':∀ b∈ownsT2 l us,Free E C1 b:=fun b hb=>t1.free b (hf b (by simp only [ownsT2,List.mem_append]; exact .inr hb)) fun hb'=>hdj b hb' b hb rfl
  obtain ⟨C2,t2,l2,r2⟩:=thawT_sound l us (thaw2 v ns).2.1 t1.inv (by simpa using hl) hr' hf' hnd2 (t1.sub.nodup hns) t1.dead (fun hne=>hmb fun e=>hne (List.sublist_nil.1 (by rw [<- e]; exact t1.sub)))
  refine ⟨C2,t1.comp t2,by simp [thawT,l2],fun j c hj=>?_⟩
  cases j with
  |zero =>
   simp only [thawT,List.getElem?_cons_zero,Option.some.injEq] at hj
   subst hj
   exact r1.mono t2.le
  |succ j=>simpa using r2 j c (by simpa [thawT] using hj)
theorem thaw_sound {c:V} {u:Value} {ns:List Nat} (h:Inv E n C st a) (hR:RB C c u) (hown:∀ b∈ownsR c u,Free E C b) (hnd:(ownsR c u).Nodup) (hns:ns.Nodup) (hdead:∀ r∈ns,(st.heap r).isDead=true) (hmb:ns≠[]->∀ b,E.Mb b) :
  ∃ C',Thawed E n C st a (ownsR c u) ns (thaw c ns).2 C'/\R C' (thaw c ns).1 u:=by
 by_cases hcc:∃ vs,c=.tup vs
 ·obtain ⟨vs,rfl⟩:=hcc
  obtain ⟨us,rfl,h2,h4⟩:=hR
  have e:ownsR (.tup vs) (.tuple us.toArray)=ownsT2 vs us:=by simp [ownsR]
  rw [e] at hown hnd ⊢
  obtain ⟨C',t,l,r⟩:=thawT_sound vs us ns h h2 h4 hown hnd hns hdead hmb
  exact ⟨C',t,.tup _ us l r⟩
 ·have hne:∀ vs,c≠.tup vs:=fun vs e=>hcc ⟨vs,e⟩
  have e1:RB C c u=RB2 C c u:=by unfold RB; split <;> first|exact absurd rfl (hne _)|rfl
  have e2:ownsR c u=owns2 c u:=by unfold ownsR; split <;> first|exact absurd rfl (hne _)|rfl
  have e3:thaw c ns=thaw2 c ns:=by unfold thaw; split <;> first|exact absurd rfl (hne _)|rfl
  rw [e1] at hR
  rw [e2] at hown hnd ⊢
  rw [e3]
  exact thaw2_sound h hR hown hnd hns hdead hmb
theorem okOp_alloc {z:List V} {r:Nat} {objs:List Nat} {op:Op} (h:okOp P (.alloc z r objs) op=true) :
  ∃ t i v,op=.alloc t/\P.info? t=some i/\i.zero=some v/\zOwn z v.cells.toList=true/\(∀ u∈v.cells.toList,u.oneCell'=true):=by
 cases op with
 |alloc t =>
  simp only [okOp] at h
  obtain ⟨i,v,hi,hv,hf⟩:=zeroIs_spec h
  simp only [Bool.and_eq_true] at hf
  exact ⟨t,i,v,rfl,hi,hv,hf.1,fun u hu=>Array.all_eq_true_iff_forall_mem.1 hf.2 u (by simpa using hu)⟩
 |_=>simp [okOp] at h
theorem zOwn_R:∀ {l:List V} {m:List Value},zOwn l m=true->l.length=m.length/\ownsL l m=[]/\∀ (C:Ctx) (j:Nat) (c:V),l[j]?=some c->RB1 C c (m.getD j undef)
 |[],[],_=>⟨rfl,rfl,fun _ j c hj=>by simp at hj⟩
 |[],_::_,h=>by simp [zOwn] at h
 |_::_,[],h=>by simp [zOwn] at h
 |v :: l,u::m,h=>by
  unfold zOwn at h
  split at h
  ·rename_i heq; cases heq
  ·rename_i s l' m' e1 e2
   cases e1; cases e2
   obtain ⟨a1,a2,a3⟩:=zOwn_R h
   refine ⟨by simp [a1],by simp [ownsL,owns1,a2],fun C j c hj=>?_⟩
   cases j with
   |zero=>simp at hj; subst hj; exact .inl ⟨rfl,rfl⟩
   |succ j=>simpa using a3 C j c (by simpa using hj)
  ·rename_i v' l' u' m' hne e1 e2
   cases e1; cases e2
   simp only [Bool.and_eq_true] at h
   obtain ⟨h1,h2⟩:=h
   obtain ⟨a1,a2,a3⟩:=zOwn_R h2
   have hno:∀ s rows,v≠.own s rows:=fun s rows e=>by subst e; simp [constOk] at h1
   refine ⟨by simp [a1],?_,fun C j c hj=>?_⟩
   ·have:owns1 v u=[]:=by unfold owns1; split <;> first|exact absurd rfl (hno _ _)|(simp [constOk] at h1; done)|rfl
    simp [ownsL,this,a2]
   ·cases j with
    |zero =>
     simp at hj; subst hj
     rw [RB1_other hno fun ks vs e=>by subst e; simp [constOk] at h1]; exact constOk_R h1 C
    |succ j=>simpa using a3 C j c (by simpa using hj)
  ·cases h
theorem snd_alloc {z:List V} {r:Nat} {objs:List Nat}:Snd P (.alloc z r objs):=by
 intro E n C st a o d K next Q hinv hok hd h hn hmf
 obtain ⟨t,i,v,hop,hi,hv,hz,hz1⟩:=okOp_alloc hok
 obtain ⟨z1,z2,z3⟩:=zOwn_R hz
 simp only [eff] at h
 obtain ⟨hnd,hdead,hK⟩:=h
 replace hnd:=nodupB_iff hnd
 have hdead':∀ r'∈r::objs,(st.heap r').isDead=true:=fun r' hr'=>List.all_eq_true.1 hdead r' hr'
 obtain ⟨hr,hno⟩:=List.nodup_cons.1 hnd
 obtain ⟨C',t1,l1,r1⟩:=thawL_sound z v.cells.toList objs hinv z1 (z3 C) (by rw [z2]; simp) (by rw [z2]; simp) hno (fun r' hr'=>hdead' r' (by simp [hr'])) (fun hne=>hinv.mball (by
  cases hnm:n.nomap with
  |false=>rfl
  |true=>exact absurd (List.isEmpty_iff.1 (hmf hnm)) hne))
 have hrd:((st.sets (thawL z objs).2.2).heap r).isDead=true:=by rw [t1.other r hr]; exact hdead' r (by simp)
 have hcur:(C'.w.alloc (.cells v.cells t)).heap[C'.w.heap.size]?=some (.cells v.cells t (0,0)):=heap_alloc_new _ _
 obtain ⟨C2,h1,h2,h3,_⟩:=t1.inv.newBox (Ext.alloc C'.w (.cells v.cells t)) (Nat.le_refl _) hcur hrd (cs:=(thawL z objs).1) (fun j c hj=>by
  have hlt:j < v.cells.size:=by have:=(List.getElem?_eq_some_iff.1 hj).1; rw [l1] at this; simpa using this
  have e:v.cells.getD j undef=v.cells[j]:=by simp [hlt]
  have e2:v.cells.toList.getD j undef=v.cells[j]:=by simp [hlt]
  have:=r1 j c hj
  rw [e2] at this
  rw [e]
  exact ⟨by simp [hlt],hz1 _ (by simp),this⟩)
 refine wp_value (u:=.pointer (some ⟨C'.w.heap.size,0,none⟩)) (w':=C2.w) ?_ (hn C2 _ _ (h1.put hd h3) hK)
 rw [h2,t1.w]
 simp [execOp,hop,Instr.alloc,zeroValue,typeInfo,hi,hv,newVar,newRow]
end Go.Ab

namespace Go.Ab
open Go
variable {E:Ent} {n:Sz} {C:Ctx} {st:St} {a:Act} {P:Program}
structure Src (P:Program) (C:Ctx) (s:Nat) (ys:List (List V)) (u:Value) (news:List Value):Prop where
 slice:∃ ao cap,u=.slice ao ys.length cap
 len:news.length=ys.length * s
 width:∀ r∈ys,r.length=s
 cells:∀ i j c,at2 ys i j=some c->∃ x,news[i * s+j]?=some x/\c.closed=true/\R C c x
 one:∀ x∈news,x.oneCell'=true
 run:∀ w',w'.heap=C.w.heap->(Builtin.firstCells s ys.length u).run P w'=.ok news.toArray w'
theorem at2_of {ys:List (List V)} {s p:Nat} (hw:∀ r∈ys,r.length=s) (hs:0 < s) (hp:p < ys.length * s):∃ c,at2 ys (p / s) (p % s)=some c:=by
 have h1:p / s < ys.length:=(Nat.div_lt_iff_lt_mul hs).2 hp
 have h2:p % s < ys[p / s].length:=by rw [hw _ (List.getElem_mem h1)]; exact Nat.mod_lt _ hs
 exact ⟨ys[p / s][p % s],by unfold at2; rw [List.getElem?_eq_getElem h1]; exact List.getElem?_eq_getElem h2⟩
theorem src_rows {ys:List (List V)} {s b base cap:Nat} (hs:0 < s) (hw:∀ r∈ys,r.length=s) (g:Nat->Nat->Value)
  (h:∀ i j c,at2 ys i j=some c->C.w.cell? ⟨b,base+i * s+j,none⟩=some (g i j)/\(g i j).oneCell'=true/\c.closed=true/\R C c (g i j)) :
  Src P C s ys (.slice (some ⟨b,base,none⟩) ys.length cap) ((List.range (ys.length * s)).map fun p=>g (p / s) (p % s)):=by
 refine ⟨⟨_,_,rfl⟩,by simp,hw,fun i j c hij=>?_,fun x hx=>?_,fun w' hw'=>?_⟩
 ·obtain ⟨hi,hc⟩:=at2_lt hij
  have hj:j < s:=by rw [<- hw _ (List.getElem_mem hi)]; exact (List.getElem?_eq_some_iff.1 hc).1
  obtain ⟨d1,d2⟩:=div_of (i:=i) hj
  have hlt:i * s+j < ys.length * s:=by
   have:i * s+s<=ys.length * s:=by rw [<- Nat.succ_mul]; exact Nat.mul_le_mul_right _ hi
   omega
  exact ⟨g i j,by simp [hlt,d1,d2],(h i j c hij).2.2.1,(h i j c hij).2.2.2⟩
 ·simp only [List.mem_map,List.mem_range] at hx
  obtain ⟨p,hp,rfl⟩:=hx
  obtain ⟨c,hc⟩:=at2_of hw hs hp
  exact (h _ _ c hc).2.1
 ·refine run_firstCells_some w' s ys.length ⟨b,base,none⟩ ys.length cap _ (by simp) fun p v hv=>?_
  simp only [List.getElem?_map,Option.map_eq_some_iff] at hv
  obtain ⟨q,hq,rfl⟩:=hv
  obtain ⟨hlt,rfl⟩:=List.getElem?_eq_some_iff.1 hq
  simp only [List.length_range] at hlt
  simp only [List.getElem_range]
  obtain ⟨c,hc⟩:=at2_of hw hs hlt
  have:=(h _ _ c hc).1
  rw [addr_add]
  have e:base+p / s * s+p % s=base+p:=by
   have:=Nat.div_add_mod p s
   rw [Nat.mul_comm] at this
   omega
  rw [e] at this
  rw [<- this]
  exact World.cell?_of_block (a:=⟨b,base+p,none⟩) (by rw [hw'])
theorem src_nil {s:Nat} {ao:Option Addr} {cap:Nat}:Src P C s [] (.slice ao 0 cap) []:=by
 refine ⟨⟨_,_,rfl⟩,by simp,by simp,fun i j c hij=>by simp [at2] at hij,by simp,fun w' _=>?_⟩
 cases ao with
 |none=>simp [Builtin.firstCells]
 |some b=>simp [Builtin.firstCells,loadCells,loadCellsFrom]
theorem at2_seg {rs:List (List V)} {j m i k:Nat} {c:V} (h:at2 ((rs.drop j).take m) i k=some c):at2 rs (j+i) k=some c/\i < m:=by
 unfold at2 at h ⊢
 rw [List.getElem?_take] at h
 split at h
 ·rename_i hi; rw [List.getElem?_drop] at h; exact ⟨h,hi⟩
 ·cases h
theorem src_of (hinv:Inv E n C st a) {s:Nat} (h0:0 < s) {v:V} {u:Value} (hR:R C v u) {ys:List (List V)} (hs:srcRows st s v=some ys):∃ news,Src P C s ys u news:=by
 unfold srcRows at hs
 split at hs
 ·rename_i f s' ys'
  split at hs
  ·rename_i e; subst e; cases hs
   cases hR with
   |slNil=>exact ⟨_,src_nil⟩
   |slZ=>exact ⟨_,src_nil⟩
   |sl _ _ _ b base cap g hc hm hu hfr hcell hcl hr=>exact ⟨_,src_rows h0 hu g fun i j c hij=>⟨(hcell i j c hij).1,(hcell i j c hij).2.2,hcl i j c hij,hr i j c hij⟩⟩
  ·cases hs
 ·cases hs
  cases hR with
  |nils=>exact ⟨_,src_nil⟩
  |nilsSome=>exact ⟨_,src_nil⟩
 ·rename_i r j m
  split at hs
  ·rename_i s' rs hh
   split at hs
   ·rename_i e; subst e; cases hs
    rw [<- hinv.heap] at hh
    cases hR with
    |sref _ _ _ s2 rs2 L g1 g2 g3 =>
     rw [hh] at g1; cases g1
     have ho:=hinv.objs r
     unfold ObjOk at ho
     rw [hh] at ho
     rcases ho with ⟨_,ho⟩|⟨L',hl',q0,q1,q2,q3,⟨cur,e,g,hb,hcs,hc⟩,_⟩
     ·rw [g2] at ho; cases ho
     rw [g2] at hl'; cases hl'
     have hlen:((rs.drop j).take m).length=m:=by simp; omega
     have hsub:∀ r∈(rs.drop j).take m,r.length=s':=fun r hr=>q3 r (List.drop_subset _ _ (List.take_subset _ _ hr))
     have:=src_rows (P:=P) (C:=C) (b:=L.blk) (base:=j * s') (cap:=L.cap - j) h0 hsub (fun i k=>g (j+i) k) (fun i k c hij=>by
      obtain ⟨h1,_⟩:=at2_seg hij
      obtain ⟨a1,a2,a3,a4⟩:=hc _ _ _ h1
      refine ⟨?_,a2,a3,a4⟩
      rw [cell_of_row _ _ _ _ _ _ hb,<- a1]
      congr 1
      rw [Nat.add_mul])
     rw [hlen] at this
     exact ⟨_,this⟩
    |srefNil _ _ g1 g2 =>
     rw [hh] at g1; cases g1
     exact ⟨_,by simpa using (src_nil (P:=P) (C:=C) (s:=s') (ao:=none) (cap:=0))⟩
    |srefZ _ _ s2 rs2 ab ao g1 g2=>exact ⟨_,by simpa using (src_nil (P:=P) (C:=C) (s:=s') (ao:=some ⟨ab,ao,none⟩) (cap:=0))⟩
   ·cases hs
  ·cases hs
 ·cases hs
section runs
variable (w:World) {t t' ty e e2 s bytes:Nat} {i:TypeInfo} {z:Value} (ht:P.underlying t=some (.slice e)) (ht':P.underlying t'=some (.slice e2)) (hi:P.info? e=some i)
 (hs:i.size=s) (hb:i.bytes=bytes) (hz:i.zero=some z)
include ht ht' hi hs
theorem run_app_zero {ao ao':Option Addr} {cap:Nat} {news:List Value} (hn:news=[]) (hx:(Builtin.firstCells s 0 (.slice ao' 0 cap)).run P w=.ok news.toArray w) :
  (Builtin.append_ #[t,t'] ty #[.slice ao 0 0,.slice ao' 0 cap]).run P w=.ok (.slice ao 0 0) w:=by
 subst hn
 cases ao <;> simp [Builtin.append_,run_underlying ht,run_underlying ht',sizeOf,typeInfo,hi,hs,Builtin.lenOf,hx,storeCells]
theorem run_app_room {b k cap m:Nat} {cur:Array Value} {e':TypeId} {ao':Option Addr} {cap':Nat} {news:List Value} (hg:w.heap[b]?=some (.cells cur e' (0,0))) (hcs:cur.size=cap * s)
  (hroom:k+m<=cap) (hl:news.length=m * s) (h1:∀ x∈news,x.oneCell'=true) (hx:(Builtin.firstCells s m (.slice ao' m cap')).run P w=.ok news.toArray w) :
  (Builtin.append_ #[t,t'] ty #[.slice (some ⟨b,0,none⟩) k cap,.slice ao' m cap']).run P w =
   .ok (.slice (some ⟨b,0,none⟩) (k+m) cap) (w.setRow b (cur.toList.take (k * s) ++ news ++ cur.toList.drop (k * s+news.length)).toArray):=by
 have hfit:k * s+news.length<=cur.size:=by rw [hl,hcs,<- Nat.add_mul]; exact Nat.mul_le_mul_right _ hroom
 have hst:=run_storeCells_at P b (k * s) e' news 0 cur w hg (by simpa using hfit) h1
 simp only [Nat.add_zero] at hst
 simp [Builtin.append_,run_underlying ht,run_underlying ht',sizeOf,typeInfo,hi,hs,Builtin.lenOf,hroom,hx,addr_add,hst]
include hb hz
theorem run_app_grow {ao:Option Addr} {k cap m:Nat} {ao':Option Addr} {cap':Nat} {olds news:List Value} (hgrow:cap < k+m) (h63:k+m<=140737488355328) (h47:(k+m) * bytes<=140737488355328) (hb0:0 < bytes)
  (ho:(Builtin.firstCells s k (.slice ao k cap)).run P w.drew=.ok olds.toArray w.drew) (hx:(Builtin.firstCells s m (.slice ao' m cap')).run P w.drew=.ok news.toArray w.drew) :
  (Builtin.append_ #[t,t'] ty #[.slice ao k cap,.slice ao' m cap']).run P w =
   .ok (.slice (some ⟨w.heap.size,0,none⟩) (k+m) (grownCap w (k+m) cap e)) (w.drew.alloc (.cells (olds.toArray ++ news.toArray ++ Builtin.zeroCells z.cells (grownCap w (k+m) cap e - (k+m))) e)):=by
 have hn:¬ (k+m<=cap):=by omega
 have h63':¬ (9223372036854775807 < ((k:Int)+(m:Int))):=by omega
 have h48:=growslice_fits hgrow h47
 have h48':¬ (281474976710656 < Builtin.nextslicecap (k+m) cap * bytes):=by omega
 have hb1:bytes≠0:=by omega
 simp [Builtin.append_,run_underlying ht,run_underlying ht',sizeOf,typeInfo,zeroValue,hi,hs,hb,hz,Builtin.lenOf,hn,hb1,h48',Question.forced,ho,hx,newRow,grownCap]
 congr 2
 apply Array.ext'
 simp [List.append_assoc]
end runs
theorem Src.mono {C':Ctx} {s:Nat} {ys:List (List V)} {u:Value} {news:List Value} (h:Src P C s ys u news) (hw:C'.w=C.w) (hF:∀ b off,C.F b off->C'.F b off) (hG:∀ b,C.G b->C'.G b):Src P C' s ys u news :=
 ⟨h.slice,h.len,h.width,fun i j c hij=>let ⟨x,h1,h2,h3⟩:=h.cells i j c hij; ⟨x,h1,h2,h3.of_closed (fun b off hf=>⟨hF b off hf,by rw [hw]⟩) hG h2⟩,h.one,fun w' hw'=>h.run w' (by rw [hw',hw])⟩
theorem Src.nil {s:Nat} {u:Value} {news:List Value} (h:Src P C s [] u news):news=[]:=List.eq_nil_of_length_eq_zero (by simpa using h.len)
theorem Inv.mkSlZ (h:Inv E n C st a) {s:Nat} {mode d:Option Nat} {K:St->Prop} (ao:Option Addr) (hao:∀ x,ao=some x->x.spot=none) (hk:newSl s [] mode d st K) :
  ∃ C' st' v,Inv E n C' st' a/\C'.w=C.w/\R C' v (.slice ao 0 0)/\K (st'.put d v):=by
 cases mode with
 |none =>
  refine ⟨C,st,_,h,rfl,?_,hk⟩
  cases ao with
  |none=>exact .slNil true s
  |some ad =>
   obtain ⟨b,off,spot⟩:=ad
   have:=hao _ rfl
   simp only at this
   subst this
   exact .sl true s [] b off 0 (fun _ _=>undef) (by simp) (by simp [maxLen]) (by simp) (by simp) (fun i j c hij=>by simp [at2] at hij) (fun i j c hij=>by simp [at2] at hij) (fun i j c hij=>by simp [at2] at hij)
 |some r =>
  obtain ⟨h0,hk⟩:=hk
  obtain ⟨C',h1,h2,h3,_⟩:=h.newNil (s:=s) h0
  refine ⟨C',_,_,h1,h2,?_,hk⟩
  cases ao with
  |none=>exact h3
  |some ad =>
   have hh:C'.heap r=.rows s []:=by rw [h1.heap]; simp [St.set,upd]
   obtain ⟨b,off,spot⟩:=ad
   have:=hao _ rfl
   simp only at this
   subst this
   exact .srefZ r 0 s [] b off hh (Nat.zero_le _)
theorem at2_append {rs ys:List (List V)} {i j:Nat} {c:V} (h:at2 (rs ++ ys) i j=some c):(i < rs.length/\at2 rs i j=some c)\/(rs.length<=i/\at2 ys (i - rs.length) j=some c):=by
 unfold at2 at h ⊢
 by_cases hi:i < rs.length
 ·rw [List.getElem?_append_left hi] at h; exact .inl ⟨hi,h⟩
 ·rw [List.getElem?_append_right (by omega)] at h; exact .inr ⟨by omega,h⟩
theorem Src.cat {s:Nat} {rs ys:List (List V)} {u v:Value} {olds news:List Value} (h:Src P C s rs u olds) (h':Src P C s ys v news) {i j:Nat} {c:V} (hij:at2 (rs ++ ys) i j=some c) :
  ∃ x,(olds ++ news)[i * s+j]?=some x/\x.oneCell'=true/\c.closed=true/\R C c x:=by
 rcases at2_append hij with ⟨hi,hc⟩|⟨hi,hc⟩
 ·obtain ⟨x,h1,h2,h3⟩:=h.cells i j c hc
  have hlt:=(List.getElem?_eq_some_iff.1 h1).1
  exact ⟨x,by rw [List.getElem?_append_left hlt]; exact h1,h.one x (List.mem_of_getElem? h1),h2,h3⟩
 ·obtain ⟨x,h1,h2,h3⟩:=h'.cells _ j c hc
  have e:i * s+j=olds.length+((i - rs.length) * s+j):=by
   rw [h.len,<- Nat.add_assoc,<- Nat.add_mul]
   congr 2; omega
  exact ⟨x,by rw [e,List.getElem?_append_right (by omega)]; simpa using h1,h'.one x (List.mem_of_getElem? h1),h2,h3⟩
theorem Inv.setFree (h:Inv E n C st a) {b:Nat} {cur cur':Array Value} {e:TypeId} (hf:Free E C b) (hb:C.w.heap[b]?=some (.cells cur e (0,0))) (hs:cur'.size=cur.size) :
  Inv E n { C with w:=C.w.setRow b cur' } st a/\Le C { C with w:=C.w.setRow b cur' }:=by
 have hblk:(C.w.setRow b cur').heap[b]?=some (.cells cur' e (0,0)):=setRow_heap C.w b cur cur' e _ hb
 have hle:Le C { C with w:=C.w.setRow b cur' } :=
  ⟨fun b' off hx=>⟨hx,World.cell?_of_block (a:=⟨b',off,none⟩) (setRow_ext_ne fun e=>hf.F off (e ▸ hx))⟩,fun _ h=>h,fun _ cs _ h=>⟨⟨cs,h⟩,rfl⟩,fun _ _ rs _ h=>⟨⟨rs,h,rfl⟩,rfl⟩,fun _ ks vs _ h=>⟨⟨ks,vs,h⟩,rfl⟩⟩
 have hh:Hist E { C with w:=C.w.setRow b cur' } a:=h.hist hle.F fun b' o ho hb'=>(setRow_ext_ne fun e=>by subst e; rw [hb] at hb'; cases hb'; cases ho).trans hb'
 exact ⟨{
   heap := h.heap,env:=fun t=>(h.env t).mono hle
   objs:=fun r=>(h.objs r).mono hle ⟨fun b' _ _ hF _=>⟨rfl,setRow_ext_ne fun e=>hf.F 0 (e ▸ hF),fun _ h=>h⟩⟩ rfl rfl fun L hl ha=>⟨setRow_ext_ne (hf.obj r L hl ha),fun _ h=>h,fun h=>h⟩
   inj:=h.inj
   fin:=fun b' off hx=>by simp only; rw [size_setRow]; exact h.fin b' off hx
   gnew:=h.gnew,gsub:=h.gsub,par:=h.par,fnew:=h.fnew
   frame := ⟨h.frame.os,h.frame.output,h.frame.tape,by simp only; rw [size_setRow]; exact h.frame.size,fun b' hlt=>by
    have hsame:=h.frame.same b' hlt
    by_cases hbb:b'=b
    ·subst hbb
     simp only
     rw [hblk]
     rw [hb] at hsame
     cases ho:E.w0.heap[b']? with
     |none=>rw [ho] at hsame; simp [sameBut] at hsame
     |some o =>
      rw [ho] at hsame
      cases o with
      |cells c e1 fr =>
       simp only [sameBut] at hsame ⊢
       obtain ⟨s1,s2,s3,s4⟩:=hsame
       refine ⟨s1,s2,hs.trans s3,fun off hw=>?_⟩
       rcases hf.W off with h1|h1
       ·omega
       ·exact absurd h1 hw
      |_=>simp [sameBut] at hsame
    ·simp only
     rw [setRow_ext_ne hbb]; exact hsame⟩
   marks:=hh.marks,mnd:=hh.mnd,fkeep:=hh.fkeep,stay:=hh.stay,wsz:=hh.wsz,mball:=h.mball,size:=h.size },hle⟩
theorem okOp_app {s bytes:Nat} {x y:X} {mode:Option Nat} {op:Op} (h:okOp P (.app s bytes x y mode) op=true) :
  ∃
   c x' y' t t' e e2 i z,op=.call c/\c.callee=.builtin .append/\c.args=#[x',y']/\c.argTypes=#[t,t']/\P.underlying t=some (.slice e)/\P.underlying t'=some (.slice e2)/\P.info? e=some i/\i.size=s/\i.bytes=bytes/\0 < bytes/\0 < s /\
   i.zero=some z/\z.cells.size=s/\okX x x'=true/\okX y y'=true:=by
 cases op with
 |call c =>
  simp only [okOp] at h
  split at h
  ·rename_i x' y' t t' hc ha ht
   simp only [Bool.and_eq_true] at h
   obtain ⟨⟨⟨h1,h2⟩,h3⟩,h4⟩:=h
   split at h1
   ·rename_i e hu
    split at h2
    ·rename_i e2 hu2
     cases hi:P.info? e with
     |none=>simp [hi] at h1
     |some i =>
      simp only [hi,Option.any_some,Bool.and_eq_true,beq_iff_eq,decide_eq_true_eq] at h1
      obtain ⟨⟨⟨⟨q1,q2⟩,q3⟩,q4⟩,q5⟩:=h1
      split at q5
      ·rename_i z hz
       exact ⟨c,x',y',t,t',e,e2,i,z,rfl,hc,by rw [<- ha],by rw [<- ht],hu,hu2,hi,q1,q2,q3,q4,hz,by simpa using q5,h3,h4⟩
      ·cases q5
    ·cases h2
   ·cases h1
  ·cases h
 |_=>simp [okOp] at h
theorem snd_app {s bytes:Nat} {x y:X} {mode:Option Nat}:Snd P (.app s bytes x y mode):=by
 intro E n C st a o d K next Q hinv hok hd h hn _
 obtain ⟨c,x',y',t,t',e,e2,i,z,hop,hc,ha,hty,ht,ht',hi,hs,hb,hb0,h0,hz,hzs,hx,hy⟩:=okOp_app hok
 have hX:=hinv.ev hx
 have hY:=hinv.ev hy
 have hexec:∀ v w',(Builtin.append_ #[t,t'] o.type #[a.eval x',a.eval y']).run P C.w=.ok v w'->(execOp a.eval o).run P C.w=.ok (.value v) w':=by
  intro v w' hr
  simp [execOp,hop,resolve,hc,ha,hty,invoke,builtin,hr]
 -- a base without room
 have zero:∀ (C1:Ctx) (st1:St) (ys:List (List V)) (news:List Value) (ao:Option Addr),Inv E n C1 st1 a->C1.w=C.w->a.eval x'=.slice ao 0 0->(∀ x,ao=some x->x.spot=none)->Src P C1 s ys (a.eval y') news ->
   ys.length * bytes<=140737488355328->newSl s ys mode d st1 K->o.wp P a C.w next Q:=by
  intro C1 st1 ys news ao h1 hw hu hao hsrc hbd hk
  obtain ⟨ao',cap',hu'⟩:=hsrc.slice
  rw [hu,hu'] at hexec
  rw [hu'] at hsrc
  by_cases hm:ys.length=0
  ·have:ys=[]:=List.eq_nil_of_length_eq_zero hm
   subst this
   obtain ⟨C',st',v,g1,g2,g3,g4⟩:=h1.mkSlZ ao hao hk
   have hrun:=run_app_zero C.w (ty:=o.type) ht ht' hi hs (ao:=ao) (ao':=ao') (cap:=cap') hsrc.nil (hsrc.run C.w (by rw [hw]))
   rw [<- hw,<- g2] at hrun
   have:=hexec _ _ (by rw [<- hw,<- g2]; exact hrun)
   exact wp_value this (hn C' _ _ (g1.put hd g3) g4)
  ·have hy63:ys.length<=140737488355328:=Nat.le_trans (Nat.le_mul_of_pos_right _ hb0) hbd
   have hrun:=run_app_grow C.w (ty:=o.type) ht ht' hi hs hb hz (ao:=ao) (k:=0) (cap:=0) (m:=ys.length) (ao':=ao') (cap':=cap') (olds:=[]) (by omega) (by omega) (by simpa using hbd) hb0
    ((src_nil (P:=P) (C:=C1) (s:=s) (ao:=ao) (cap:=0)).run _ (by rw [hw]; rfl)) (hsrc.run _ (by rw [hw]; rfl))
   simp only [Nat.zero_add] at hrun
   have hge:=grownCap_ge C.w ys.length 0 e
   have hcm:=grownCap_le_maxLen C.w ys.length 0 e (by simp [maxLen]; omega)
   have hnew:NewRow C1 (C.w.drew.alloc (.cells (#[] ++ news.toArray ++ Builtin.zeroCells z.cells (grownCap C.w ys.length 0 e - ys.length)) e)) C.w.heap.size (grownCap C.w ys.length 0 e) s ys:=by
    refine ⟨by rw [hw]; exact (Ext.drew _).trans (Ext.alloc _ _),by rw [hw]; exact Nat.le_refl _,hge,hcm,hsrc.width,_,e,fun i j=>news.getD (i * s+j) undef,heap_alloc_new C.w.drew _,?_,fun i j c hij=>?_⟩
    ·simp only [Array.size_append,List.size_toArray,size_zeroCells,hzs,hsrc.len,List.size_toArray,List.length_nil,Nat.zero_add]
     rw [<- Nat.add_mul]; congr 1; omega
    ·obtain ⟨q,q1,q2,q3⟩:=hsrc.cells i j c hij
     have hlt:=(List.getElem?_eq_some_iff.1 q1).1
     have eq:news.getD (i * s+j) undef=q:=by simp [List.getD,q1]
     dsimp only
     rw [eq]
     refine ⟨?_,hsrc.one q (List.mem_of_getElem? q1),q2,q3⟩
     rw [Array.getElem?_append_left (by simpa using hlt),Array.getElem?_append_right (by simp)]
     simpa using q1
   obtain ⟨C',st',v,g1,g2,g3,g4⟩:=h1.mkSl hnew hk
   have:=hexec _ _ hrun
   rw [show (List.toArray ([]:List Value))=#[] from rfl,<- g2] at this
   exact wp_value this (hn C' _ _ (g1.put hd g3) g4)
 -- a base in a block
 have blk : ∀ (C1:Ctx) (st1:St) (rs ys:List (List V)) (news:List Value) (b cap:Nat),Inv E n C1 st1 a->C1.w=C.w->a.eval x'=.slice (some ⟨b,0,none⟩) rs.length cap->Free E C1 b->OwnAt C1 b cap s rs->Src P C1 s ys (a.eval y') news ->
   (rs.length+ys.length) * bytes<=140737488355328->newSl s (rs ++ ys) mode d st1 K->o.wp P a C.w next Q:=by
  intro C1 st1 rs ys news b cap h1 hw hu hf hown hsrc hbd hk
  obtain ⟨ao',cap',hu'⟩:=hsrc.slice
  rw [hu,hu'] at hexec
  rw [hu'] at hsrc
  obtain ⟨cur,e',g,hcur,hcs,hcell⟩:=hown.cells
  have hold:Src P C1 s rs (.slice (some ⟨b,0,none⟩) rs.length cap) _:=src_rows (P:=P) (C:=C1) (b:=b) (base:=0) (cap:=cap) h0 hown.width g (fun i j c hij=>by
   obtain ⟨a1,a2,a3,a4⟩:=hcell i j c hij
   exact ⟨by rw [Nat.zero_add,cell_of_row _ _ _ _ _ _ hcur]; exact a1,a2,a3,a4⟩)
  generalize ((List.range (rs.length * s)).map fun p=>g (p / s) (p % s))=olds at hold
  by_cases hroom:rs.length+ys.length<=cap
  ·rw [hw] at hcur
   have hrun:=run_app_room C.w (ty:=o.type) ht ht' hi hs hcur hcs hroom hsrc.len hsrc.one (hsrc.run C.w (by rw [hw]))
   have hfit:rs.length * s+news.length<=cur.size:=by rw [hsrc.len,hcs,<- Nat.add_mul]; exact Nat.mul_le_mul_right _ hroom
   obtain ⟨sp1,sp2⟩:=splice_get (vs:=news) (cur:=cur) (o:=rs.length * s) rfl hfit
   generalize (cur.toList.take (rs.length * s) ++ news ++ cur.toList.drop (rs.length * s+news.length)).toArray=cur' at hrun sp1 sp2
   obtain ⟨h2,l2⟩:=h1.setFree hf (by rw [hw]; exact hcur) sp1
   have hf2:Free E { C1 with w:=C1.w.setRow b cur' } b:=⟨hf.F,hf.G,hf.W,hf.obj⟩
   have hown2:OwnAt { C1 with w:=C1.w.setRow b cur' } b cap s (rs ++ ys):=by
    refine ⟨by simpa using hroom,hown.max,fun r hr=>?_,cur',e',fun i j=>cur'.getD (i * s+j) undef,by simp only; rw [hw]; exact setRow_heap _ _ _ _ _ _ hcur,sp1.trans hcs,fun i j c hij=>?_⟩
    ·rcases List.mem_append.1 hr with h|h
     ·exact hown.width r h
     ·exact hsrc.width r h
    ·have main:∃ q,cur'[i * s+j]?=some q/\q.oneCell'=true/\c.closed=true/\R C1 c q:=by
      rcases at2_append hij with ⟨hi',hc'⟩|⟨hi',hc'⟩
      ·obtain ⟨a1,a2,a3,a4⟩:=hcell i j c hc'
       refine ⟨_,?_,a2,a3,a4⟩
       rw [sp2,if_neg]
       ·exact a1
       ·rintro ⟨q1,_⟩
        obtain ⟨_,hjc⟩:=at2_lt hc'
        have hj:j < s:=by rw [<- hown.width _ (List.getElem_mem hi')]; exact (List.getElem?_eq_some_iff.1 hjc).1
        have:i * s+s<=rs.length * s:=by rw [<- Nat.succ_mul]; exact Nat.mul_le_mul_right _ hi'
        omega
      ·obtain ⟨q,q1,q2,q3⟩:=hsrc.cells _ j c hc'
       have hlt:=(List.getElem?_eq_some_iff.1 q1).1
       have e:i * s+j=rs.length * s+((i - rs.length) * s+j):=by rw [<- Nat.add_assoc,<- Nat.add_mul]; congr 2; omega
       refine ⟨q,?_,hsrc.one q (List.mem_of_getElem? q1),q2,q3⟩
       rw [sp2,if_pos (by omega),e,Nat.add_sub_cancel_left]
       exact q1
     obtain ⟨q,m1,m2,m3,m4⟩:=main
     have ee:cur'.getD (i * s+j) undef=q:=by rw [Array.getD_eq_getD_getElem?,m1]; rfl
     dsimp only
     rw [ee]
     exact ⟨m1,m2,m3,m4.mono l2⟩
   obtain ⟨C',st',v,g1,g2,g3,g4⟩:=h2.take hf2 hown2 hk
   simp only [List.length_append] at g3
   have:=hexec _ _ hrun
   simp only at g2
   rw [<- hw,<- g2] at this
   rw [<- hw]
   exact wp_value this (hn C' _ _ (g1.put hd g3) g4)
  ·have hy63:rs.length+ys.length<=140737488355328:=Nat.le_trans (Nat.le_mul_of_pos_right _ hb0) hbd
   have hrun:=run_app_grow C.w (ty:=o.type) ht ht' hi hs hb hz (ao:=some ⟨b,0,none⟩) (k:=rs.length) (cap:=cap) (m:=ys.length) (ao':=ao') (cap':=cap') (by omega) hy63 hbd hb0
    (hold.run _ (by rw [hw]; rfl)) (hsrc.run _ (by rw [hw]; rfl))
   have hge:=grownCap_ge C.w (rs.length+ys.length) cap e
   have hcm:=grownCap_le_maxLen C.w (rs.length+ys.length) cap e (by simp [maxLen]; omega)
   have hnew:NewRow C1 (C.w.drew.alloc (.cells (olds.toArray ++ news.toArray ++ Builtin.zeroCells z.cells (grownCap C.w (rs.length+ys.length) cap e - (rs.length+ys.length))) e)) C.w.heap.size (grownCap C.w (rs.length+ys.length) cap e) s (rs ++ ys):=by
    refine ⟨by rw [hw]; exact (Ext.drew _).trans (Ext.alloc _ _),by rw [hw]; exact Nat.le_refl _,by simpa using hge,hcm,fun r hr=>?_,_,e,fun i j=>(olds ++ news).getD (i * s+j) undef,heap_alloc_new C.w.drew _,?_,fun i j c hij=>?_⟩
    ·rcases List.mem_append.1 hr with h|h
     ·exact hown.width r h
     ·exact hsrc.width r h
    ·simp only [Array.size_append,List.size_toArray,size_zeroCells,hzs,hsrc.len,hold.len]
     rw [<- Nat.add_mul,<- Nat.add_mul]; congr 1; omega
    ·obtain ⟨q,q1,q2,q3,q4⟩:=hold.cat hsrc hij
     have hlt:=(List.getElem?_eq_some_iff.1 q1).1
     have eq:(olds ++ news).getD (i * s+j) undef=q:=by simp only [List.getD,q1,Option.getD_some]
     dsimp only
     rw [eq]
     refine ⟨?_,q2,q3,q4⟩
     rw [Array.getElem?_append_left (by simpa using hlt)]
     rw [show olds.toArray ++ news.toArray=(olds ++ news).toArray by simp,List.getElem?_toArray]
     exact q1
   obtain ⟨C',st',v,g1,g2,g3,g4⟩:=h1.mkSl hnew hk
   simp only [List.length_append] at g3
   have:=hexec _ _ hrun
   rw [<- g2] at this
   exact wp_value this (hn C' _ _ (g1.put hd g3) g4)
 simp only [eff] at h
 split at h
 ·exact h.elim
 ·rename_i ys hys
  obtain ⟨news,hsrc⟩:=src_of (P:=P) hinv h0 hY hys
  split at h
  ·rename_i s1 ex
   rw [ex] at hX
   generalize hev:a.eval x'=u at hX
   cases hX with
   |nils=>exact zero C st ys news none hinv rfl hev (by simp) hsrc h.1 h.2
   |nilsSome _ b off=>exact zero C st ys news (some ⟨b,off,none⟩) hinv rfl hev (fun x hx=>by cases hx; rfl) hsrc h.1 h.2
  ·rename_i r i0 m ex
   rw [ex] at hX
   split at h
   ·rename_i s' rs hh
    obtain ⟨rfl,rfl,hm,hbd,hk⟩:=h
    obtain ⟨C1,h1,w1,F1,G1,loc1⟩:=hinv.kills [r]
    have hsrc1:Src P C1 s' ys (a.eval y') news:=hsrc.mono w1 (by rw [F1]; exact fun _ _ h=>h) (by rw [G1]; exact fun _ h=>h)
    have hdead:((st.kills [r]).heap r).isDead=true:=by simp [St.kills,St.killP,inl,AO.isDead]
    have hk':newSl s' (rs ++ ys) mode d (st.kills [r]) K:=by
     cases mode with
     |none=>exact hk
     |some r' =>
      obtain ⟨rfl,hk⟩:=hk
      refine ⟨hdead,?_⟩
      rw [hm] at hk
      simpa using hk
    have hhC:=hh
    rw [<- hinv.heap] at hhC
    generalize hev:a.eval x'=u at hX
    cases hX with
    |sref _ _ _ s2 rs2 L g1 g2 g3 =>
     rw [hhC] at g1; cases g1
     subst hm
     have ho:=hinv.objs r
     unfold ObjOk at ho
     rw [hhC] at ho
     rcases ho with ⟨_,ho⟩|⟨L',hl',q0,q1,q2,q3,⟨cur,e',g,hb',hcs,hcl⟩,hw,hG⟩
     ·rw [g2] at ho; cases ho
     rw [g2] at hl'; cases hl'
     have halive:∀ r',(C1.heap r').isDead=false->r'≠r/\(C.heap r').isDead=false:=by
      intro r' hr'
      rw [h1.heap] at hr'
      rw [hinv.heap]
      by_cases er:r'=r
      ·subst er; rw [hdead] at hr'; cases hr'
      ·refine ⟨er,?_⟩
       simp only [St.kills,St.killP,inl,Bool.or_false,beq_iff_eq,er,if_false] at hr'
       cases hq:st.heap r' with
       |dead=>rw [hq] at hr'; simp [AO.kill,AO.isDead] at hr'
       |_=>rfl
     refine blk C1 _ rs ys news L.blk L.cap h1 w1 (by rw [hev]; simp) ⟨fun off=>by rw [F1]; exact (hw off).1,by rw [G1]; exact hG,fun off=>(hw off).2,fun r' L' k1 k2 k3=>?_⟩ ⟨q1,q2,q3,cur,e',g,by rw [w1]; exact hb',hcs,fun i j c hij=>?_⟩ hsrc1 hbd hk'
     ·obtain ⟨n1,n2⟩:=halive r' k2
      rw [loc1] at k1
      exact n1 (hinv.inj r' r L' L k1 g2 n2 (by rw [hhC]; rfl) k3)
     ·obtain ⟨a1,a2,a3,a4⟩:=hcl i j c hij
      exact ⟨a1,a2,a3,a4.of_closed (fun b off hf=>⟨by rw [F1]; exact hf,by rw [w1]⟩) (fun b hb=>by rw [G1]; exact hb) a3⟩
    |srefNil _ _ g1 g2 =>
     rw [hhC] at g1; cases g1
     exact zero C1 _ ys news none h1 w1 hev (by simp) hsrc1 (by simpa using hbd) hk'
    |srefZ _ _ s2 rs2 b off g1 g2 =>
     have:rs=[]:=List.eq_nil_of_length_eq_zero hm.symm
     subst this
     exact zero C1 _ ys news (some ⟨b,off,none⟩) h1 w1 hev (fun x hx=>by cases hx; rfl) hsrc1 (by simpa using hbd) hk'
   ·exact h.elim
  ·exact h.elim
end Go.Ab

namespace Go.Ab
open Go
variable {E:Ent} {n:Sz} {C:Ctx} {st:St} {a:Act} {P:Program}
def kindOk (k:Nat) (u v:Value):Prop :=
 (k=0/\∃ q a b,u=.int q a/\v=.int q b)\/(k=1/\∃ a b,u=.bool a/\v=.bool b)\/(k=2/\∃ a b,u=.string a/\v=.string b)
def eqv:Value->Value->Bool
 |.int _ a,.int _ b=>a == b
 |.bool a,.bool b=>a == b
 |.string a,.string b=>a.toList == b.toList
 |_,_=>false
def eqvs:List Value->List Value->Bool
 |u::us,v::vs=>eqv u v&&eqvs us vs
 |_,_=>true
def kindsOk:List Nat->List Value->List Value->Prop
 |[],[],[]=>True
 |k::ks,u::us,v::vs=>kindOk k u v/\kindsOk ks us vs
 |_,_,_=>False
theorem kindsOk_len:∀ {ks:List Nat} {us vs:List Value},kindsOk ks us vs->us.length=ks.length/\vs.length=ks.length
 |[],[],[],_=>⟨rfl,rfl⟩
 |k::ks,u::us,v::vs,h=>by obtain ⟨h1,h2⟩:=kindsOk_len h.2; exact ⟨by simp [h1],by simp [h2]⟩
 |[],_::_,_,h=>h.elim
 |[],[],_::_,h=>h.elim
 |_::_,[],_,h=>h.elim
 |_::_,_::_,[],h=>h.elim
theorem kindsOk_append:∀ {ks ks':List Nat} {us vs:List Value},kindsOk (ks ++ ks') us vs->kindsOk ks (us.take ks.length) (vs.take ks.length)/\kindsOk ks' (us.drop ks.length) (vs.drop ks.length)
 |[],ks',us,vs,h=>⟨by simp [kindsOk],by simpa using h⟩
 |k::ks,ks',u::us,v::vs,h=>by
  obtain ⟨h1,h2⟩:=h
  obtain ⟨i1,i2⟩:=kindsOk_append h2
  exact ⟨⟨h1,i1⟩,i2⟩
 |_::_,_,[],_,h=>h.elim
 |_::_,_,_::_,[],h=>h.elim
theorem eqvs_split:∀ (k:Nat) (us vs:List Value),us.length=vs.length->eqvs us vs=(eqvs (us.take k) (vs.take k)&&eqvs (us.drop k) (vs.drop k))
 |0,us,vs,_=>by simp [eqvs]
 |k+1,[],[],_=>by simp [eqvs]
 |k+1,u::us,v::vs,h=>by
  have:=eqvs_split k us vs (by simpa using h)
  simp only [eqvs,List.take_succ_cons,List.drop_succ_cons,this,Bool.and_assoc]
 |_+1,[],_::_,h=>by simp at h
 |_+1,_::_,[],h=>by simp at h
def mkv (P:Program) (t:TypeId) (us:List Value):Value:=if rowOk P t true then .agg us.toArray else us.getD 0 undef
theorem run_part_mkv {t k off:Nat} (hs:szOk P t k=true) (hr:rowOk P t true=true\/(rowOk P t false=true/\k=1)) {us:List Value} (hk:off+k<=us.length) (w:World) :
  (part t us.toArray off).run P w=.ok (mkv P t ((us.drop off).take k)) w:=by
 unfold mkv
 rcases hr with hr|⟨hr,rfl⟩
 ·rw [run_part hs hr rfl hk w]; simp [hr]
 ·have:rowOk P t true=false:=by
   obtain ⟨d,hu,hd⟩:=rowOk_spec hr
   unfold rowOk; rw [hu]; cases d <;> simp_all
  rw [run_part hs hr rfl hk w,this]
  simp [List.getElem?_drop]
theorem leaves_row:∀ {d t:Nat} {ks:List Nat},leaves P d t=some ks->rowOk P t true=true\/(rowOk P t false=true/\ks.length=1)
 |0,_,_,h=>by simp [leaves] at h
 |d + 1,t,ks,h=>by
  unfold leaves at h
  unfold rowOk
  cases hu:P.underlying t with
  |none=>simp [hu] at h
  |some k =>
   rw [hu] at h
   cases k <;> simp only [Option.some.injEq,reduceCtorEq] at h
   all_goals first|exact .inl rfl|(subst h; exact .inr ⟨rfl,rfl⟩)
theorem run_eq_deep (w:World):∀ (d t:Nat) (ks:List Nat),leaves P d t=some ks->∀ (us vs:List Value),kindsOk ks us vs->∀ D,(Op.equalIn (D+d) t (mkv P t us) (mkv P t vs)).run P w=.ok (eqvs us vs) w
 |0,_,_,h=>by simp [leaves] at h
 |d + 1, t, ks, h => by
  intro us vs hk D
  have ih:=run_eq_deep w d
  have plain:∀ k,ks=[k]->rowOk P t true=false->(∀ u v,kindOk k u v->(Op.equalIn (D+d+1) t u v).run P w=.ok (eqv u v) w)->(Op.equalIn (D+(d+1)) t (mkv P t us) (mkv P t vs)).run P w=.ok (eqvs us vs) w:=by
   intro k e hr hx
   subst e
   cases us with
   |nil=>exact hk.elim
   |cons u us=>cases vs with
    |nil=>exact hk.elim
    |cons v vs =>
     obtain ⟨h1,h2⟩:=hk
     cases us with
     |cons _ _=>exact h2.elim
     |nil=>cases vs with
      |cons _ _=>exact h2.elim
      |nil =>
       rw [show D+(d+1)=D+d+1 from rfl]
       simpa [mkv,hr,eqvs] using hx u v h1
  unfold leaves at h
  split at h
  ·rename_i hu
   cases h
   refine plain 1 rfl (by unfold rowOk; rw [hu]; rfl) fun u v hkk=>?_
   rcases hkk with ⟨h,_⟩|⟨_,a,b,rfl,rfl⟩|⟨h,_⟩
   ·cases h
   ·exact run_equalIn_bool w (D+d) t a b hu
   ·cases h
  ·rename_i q hu
   cases h
   refine plain 0 rfl (by unfold rowOk; rw [hu]; rfl) fun u v hkk=>?_
   rcases hkk with ⟨_,q',a,b,rfl,rfl⟩|⟨h,_⟩|⟨h,_⟩
   ·exact run_equalIn_int w (D+d) t q' q a b hu
   ·cases h
   ·cases h
  ·rename_i hu
   cases h
   refine plain 2 rfl (by unfold rowOk; rw [hu]; rfl) fun u v hkk=>?_
   rcases hkk with ⟨h,_⟩|⟨h,_⟩|⟨_,a,b,rfl,rfl⟩
   ·cases h
   ·cases h
   ·exact run_equalIn_string w (D+d) t a b hu
  ·rename_i fs hu
   split at h
   ·cases h
   ·rename_i hheld
    have hrow:rowOk P t true=true:=by unfold rowOk; rw [hu]
    have hf:P.fieldsOf t=fs:=by simp [Program.fieldsOf,hu]
    simp only [mkv,hrow,if_true]
    rw [show D+(d+1)=(D+d)+1 from rfl,run_equalIn_struct w (D+d) t _ _ (by rw [hf]; exact hu) (by simpa using hheld),hf]
    have key:∀ (fl:List Field) (off:Nat) (ks':List Nat),leavesF P (leaves P d) fl off=some ks'->off<=us.length->off<=vs.length->kindsOk ks' (us.drop off) (vs.drop off) ->
      (Op.eqFields (D+d) us.toArray vs.toArray fl).run P w=.ok (eqvs (us.drop off) (vs.drop off)) w:=by
     intro fl
     induction fl with
     |nil =>
      intro off ks' h _ _ hk
      simp only [leavesF,Option.some.injEq] at h
      subst h
      obtain ⟨l1,l2⟩:=kindsOk_len hk
      have e1:us.drop off=[]:=List.eq_nil_of_length_eq_zero (by simpa using l1)
      have e2:vs.drop off=[]:=List.eq_nil_of_length_eq_zero (by simpa using l2)
      rw [e1,e2]
      simp [Op.eqFields,eqvs]
     |cons f fl ihf =>
      intro off ks' h hu1 hv1 hk
      simp only [leavesF] at h
      split at h
      ·rename_i hcond
       simp only [Bool.and_eq_true,beq_iff_eq,bne_iff_ne] at hcond
       obtain ⟨ho,hn⟩:=hcond
       split at h
       ·rename_i ks1 hl
        split at h
        ·rename_i hsz
         simp only [Option.map_eq_some_iff] at h
         obtain ⟨ks2,h2,rfl⟩:=h
         obtain ⟨k1,k2⟩:=kindsOk_append hk
         obtain ⟨l1,l2⟩:=kindsOk_len k1
         have n1:off+ks1.length<=us.length:=by
          have:((us.drop off).take ks1.length).length=ks1.length:=l1
          simp at this; omega
         have n2:off+ks1.length<=vs.length:=by
          have:((vs.drop off).take ks1.length).length=ks1.length:=l2
          simp at this; omega
         have p1:=run_part_mkv (P:=P) hsz (leaves_row hl) n1 w
         have p2:=run_part_mkv (P:=P) hsz (leaves_row hl) n2 w
         have p3:=ih f.type ks1 hl _ _ k1 D
         rw [List.drop_drop,List.drop_drop] at k2
         have p4:=ihf (off+ks1.length) ks2 h2 n1 n2 k2
         have hlen:(us.drop off).length=(vs.drop off).length:=by
          obtain ⟨q1,q2⟩:=kindsOk_len hk
          rw [q1,q2]
         have e:=eqvs_split ks1.length (us.drop off) (vs.drop off) hlen
         rw [List.drop_drop,List.drop_drop] at e
         simp only [Op.eqFields,hn,ne_eq,not_false_eq_true,if_true,Sem.run_bind,ho,p1,p2,p3,Result.andThen_ok]
         cases hb:eqvs ((us.drop off).take ks1.length) ((vs.drop off).take ks1.length)
         ·simp [e,hb]
         ·simp [e,hb,p4]
        ·cases h
       ·cases h
      ·cases h
    have:=key fs.toList 0 ks h (Nat.zero_le _) (Nat.zero_le _) (by simpa using hk)
    simpa using this
  ·rename_i m e hu
   split at h
   ·rename_i ks1 hl
    split at h
    ·rename_i hsz
     cases h
     have hrow:rowOk P t true=true:=by unfold rowOk; rw [hu]
     obtain ⟨ii,hii,hsi⟩:=szOk_spec hsz
     simp only [mkv,hrow,if_true]
     rw [show D+(d+1)=(D+d)+1 from rfl,run_equalIn_array w (D+d) _ _ hu hii]
     have hce:P.cellsOf e=ks1.length:=by simp [Program.cellsOf,hii,hsi]
     rw [hce,List.range_eq_range']
     have key:∀ (m j:Nat),j * ks1.length<=us.length->j * ks1.length<=vs.length->kindsOk (List.replicate m ks1).flatten (us.drop (j * ks1.length)) (vs.drop (j * ks1.length)) ->
       (Op.eqItems (D+d) e ks1.length us.toArray vs.toArray (List.range' j m)).run P w=.ok (eqvs (us.drop (j * ks1.length)) (vs.drop (j * ks1.length))) w:=by
      intro m
      induction m with
      |zero =>
       intro j _ _ hk
       obtain ⟨l1,l2⟩:=kindsOk_len hk
       have e1:us.drop (j * ks1.length)=[]:=List.eq_nil_of_length_eq_zero (by simpa using l1)
       have e2:vs.drop (j * ks1.length)=[]:=List.eq_nil_of_length_eq_zero (by simpa using l2)
       rw [e1,e2]
       simp [Op.eqItems,eqvs]
      |succ m ihm =>
       intro j hu1 hv1 hk
       simp only [List.replicate_succ,List.flatten_cons] at hk
       obtain ⟨k1,k2⟩:=kindsOk_append hk
       obtain ⟨l1,l2⟩:=kindsOk_len k1
       have n1:j * ks1.length+ks1.length<=us.length:=by
        have:((us.drop (j * ks1.length)).take ks1.length).length=ks1.length:=l1
        simp at this; omega
       have n2:j * ks1.length+ks1.length<=vs.length:=by
        have:((vs.drop (j * ks1.length)).take ks1.length).length=ks1.length:=l2
        simp at this; omega
       have p1:=run_part_mkv (P:=P) hsz (leaves_row hl) n1 w
       have p2:=run_part_mkv (P:=P) hsz (leaves_row hl) n2 w
       have p3:=ih e ks1 hl _ _ k1 D
       have ej:j * ks1.length+ks1.length=(j+1) * ks1.length:=by rw [Nat.succ_mul]
       rw [List.drop_drop,List.drop_drop,ej] at k2
       have p4:=ihm (j+1) (by rw [<- ej]; exact n1) (by rw [<- ej]; exact n2) k2
       have hlen:(us.drop (j * ks1.length)).length=(vs.drop (j * ks1.length)).length:=by
        obtain ⟨q1,q2⟩:=kindsOk_len hk
        rw [q1,q2]
       have ee:=eqvs_split ks1.length (us.drop (j * ks1.length)) (vs.drop (j * ks1.length)) hlen
       rw [List.drop_drop,List.drop_drop,ej] at ee
       simp only [List.range'_succ,Op.eqItems,Sem.run_bind,p1,p2,p3,Result.andThen_ok]
       cases hb:eqvs ((us.drop (j * ks1.length)).take ks1.length) ((vs.drop (j * ks1.length)).take ks1.length)
       ·simp [ee,hb]
       ·simp [ee,hb,p4]
     have:=key m 0 (by simp) (by simp) (by simpa using hk)
     simpa using this
    ·cases h
   ·cases h
  ·cases h
theorem eqC_R {k:Nat} {x y:V} {u v:Value} {r:Bool} (h:eqC k x y=some r) (hx:R C x u) (hy:R C y v):kindOk k u v/\eqv u v=r:=by
 unfold eqC at h
 split at h
 ·split at h
  ·rename_i e; subst e; cases h
   cases hx; cases hy
   exact ⟨.inl ⟨rfl,_,_,_,rfl,rfl⟩,rfl⟩
  ·cases h
 ·cases h; cases hx; cases hy
  exact ⟨.inr (.inl ⟨rfl,_,_,rfl,rfl⟩),rfl⟩
 ·cases h; cases hx; cases hy
  exact ⟨.inr (.inr ⟨rfl,_,_,rfl,rfl⟩),rfl⟩
 ·cases h
theorem eqK_R:∀ {ks:List Nat} {xs ys:List V} {us vs:List Value} {r:Bool},eqK ks xs ys=some r->xs.length=us.length->ys.length=vs.length ->
  (∀ (j:Nat) (c:V),xs[j]?=some c->R C c (us.getD j undef))->(∀ (j:Nat) (c:V),ys[j]?=some c->R C c (vs.getD j undef))->kindsOk ks us vs/\eqvs us vs=r
 |[],[],[],us,vs,r,h,h1,h2,_,_=>by
  have e1:us=[]:=List.eq_nil_of_length_eq_zero h1.symm
  have e2:vs=[]:=List.eq_nil_of_length_eq_zero h2.symm
  subst e1 e2
  simp only [eqK,Option.some.injEq] at h
  exact ⟨trivial,by simpa [eqvs] using h⟩
 |k::ks,x::xs,y::ys,[],_,_,_,h1,_,_,_=>by simp at h1
 |k::ks,x::xs,y::ys,_::_,[],_,_,_,h2,_,_=>by simp at h2
 |k :: ks,x::xs,y::ys,u::us,v::vs,r,h,h1,h2,hx,hy=>by
  simp only [eqK] at h
  split at h
  ·rename_i p q hp hq
   cases h
   obtain ⟨a1,a2⟩:=eqC_R hp (hx 0 x rfl) (hy 0 y rfl)
   obtain ⟨b1,b2⟩:=eqK_R hq (by simpa using h1) (by simpa using h2) (fun j c hj=>by simpa using hx (j+1) c (by simpa using hj)) (fun j c hj=>by simpa using hy (j+1) c (by simpa using hj))
   exact ⟨⟨a1,b1⟩,by simp only [eqvs]; rw [show eqv u v=p from a2,b2]⟩
  ·cases h
 |[],_::_,_,_,_,_,h,_,_,_,_=>by simp [eqK] at h
 |[],[],_::_,_,_,_,h,_,_,_,_=>by simp [eqK] at h
 |_::_,[],_,_,_,_,h,_,_,_,_=>by simp [eqK] at h
 |_::_,_::_,[],_,_,_,h,_,_,_,_=>by simp [eqK] at h
theorem snd_eqa {ng:Bool} {ks:List Nat} {x y:X}:Snd P (.eqa ng ks x y):=by
 intro E n C st a o d K next Q hinv hok hd h hn _
 cases hop:o.op <;> rw [hop] at hok <;> simp only [okOp,Bool.false_eq_true,Bool.and_eq_true,beq_iff_eq] at hok
 rename_i b t x' y' t'
 obtain ⟨⟨⟨⟨⟨hb,hl⟩,hrow⟩,hg⟩,h1⟩,h2⟩:=hok
 have hx:=hinv.ev h1
 have hy:=hinv.ev h2
 simp only [eff] at h
 split at h
 ·rename_i p q e1 e2
  split at h
  ·rename_i r hr
   rw [e1] at hx; rw [e2] at hy
   generalize hu:a.eval x'=u at hx
   generalize hv:a.eval y'=v at hy
   cases hx with
   |agg _ us l1 o1 r1 =>
    cases hy with
    |agg _ vs l2 o2 r2 =>
     obtain ⟨k1,k2⟩:=eqK_R hr l1 l2 r1 r2
     have hrun:=run_eq_deep (P:=P) C.w 8 t ks hl us vs k1 9992
     simp only [mkv,hrow,if_true] at hrun
     have hgt:P.eqGuardType P.depth t=false:=by simpa using hg
     refine wp_value (u:=.bool (ng ^^ r)) (w':=C.w) ?_ (hn C _ _ (hinv.put hd (.bool _)) h)
     simp only [Bool.or_eq_true,Bool.and_eq_true,beq_iff_eq,Bool.not_eq_true'] at hb
     rcases hb with ⟨rfl,rfl⟩|⟨rfl,rfl⟩
     ·simp only [execOp,hop,hu,hv,Sem.run_bind,run_eqGuard_agg C.w _ t x' y' _ _ hgt,Result.andThen_ok,run_eql_struct]
      rw [hrun,k2]
      simp
     ·simp only [execOp,hop,hu,hv,Sem.run_bind,run_eqGuard_agg C.w _ t x' y' _ _ hgt,Result.andThen_ok,run_neq_struct]
      rw [hrun,k2]
      simp
  ·exact h.elim
 ·exact h.elim
theorem snd_eqs {ng:Bool} {x y:X}:Snd P (.eqs ng x y):=by
 intro E n C st a o d K next Q hinv hok hd h hn _
 cases hop:o.op <;> rw [hop] at hok <;> simp only [okOp,Bool.false_eq_true,Bool.and_eq_true] at hok
 rename_i b t x' y' t'
 obtain ⟨⟨hb,h1⟩,h2⟩:=hok
 have hx:=hinv.ev h1
 have hy:=hinv.ev h2
 simp only [eff] at h
 split at h
 ·rename_i p q e1 e2
  rw [e1] at hx; rw [e2] at hy
  refine wp_value (u:=.bool (ng ^^ (p.toList == q.toList))) (w':=C.w) ?_ (hn C _ _ (hinv.put hd (.bool _)) h)
  simp only [Bool.or_eq_true,Bool.and_eq_true,beq_iff_eq,Bool.not_eq_true'] at hb
  rcases hb with ⟨rfl,rfl⟩|⟨rfl,rfl⟩ <;> simp [execOp,hop,R_str hx,R_str hy,eqGuard,binOp,Op.stringOp]
 ·exact h.elim
theorem snd_eqb {ng:Bool} {x y:X}:Snd P (.eqb ng x y):=by
 intro E n C st a o d K next Q hinv hok hd h hn _
 cases hop:o.op <;> rw [hop] at hok <;> simp only [okOp,Bool.false_eq_true,Bool.and_eq_true] at hok
 rename_i b t x' y' t'
 obtain ⟨⟨⟨hb,ht⟩,h1⟩,h2⟩:=hok
 have hu:P.underlying t=some .bool:=by
  split at ht
  ·assumption
  ·cases ht
 have hx:=hinv.ev h1
 have hy:=hinv.ev h2
 simp only [eff] at h
 split at h
 ·rename_i p q e1 e2
  rw [e1] at hx; rw [e2] at hy
  refine wp_value (u:=.bool (ng ^^ (p == q))) (w':=C.w) ?_ (hn C _ _ (hinv.put hd (.bool _)) h)
  simp only [Bool.or_eq_true,Bool.and_eq_true,beq_iff_eq,Bool.not_eq_true'] at hb
  rcases hb with ⟨rfl,rfl⟩|⟨rfl,rfl⟩ <;> simp [execOp,hop,R_bool hx,R_bool hy,eqGuard,binOp,run_equal_bool C.w t p q hu]
 ·exact h.elim
end Go.Ab

namespace Go.Ab
open Go
variable {E:Ent} {n:Sz} {C:Ctx} {st:St} {a:Act} {P:Program}
theorem shL_get:∀ (l:List V) (j:Nat),(V.shL l)[j]?=(l[j]?).map V.sh
 |[],j=>by simp [V.shL]
 |v::l,0=>by simp [V.shL]
 |v::l,j+1=>by simp [V.shL,shL_get l j]
theorem shL_len (l:List V):(V.shL l).length=l.length:=by
 induction l with
 |nil=>rfl
 |cons v l ih=>simp [V.shL,ih]
theorem shR_get:∀ (l:List (List V)) (j:Nat),(V.shR l)[j]?=(l[j]?).map V.shL
 |[],j=>by simp [V.shR]
 |v::l,0=>by simp [V.shR]
 |v::l,j+1=>by simp [V.shR,shR_get l j]
theorem shR_len (l:List (List V)):(V.shR l).length=l.length:=by
 induction l with
 |nil=>rfl
 |cons v l ih=>simp [V.shR,ih]
theorem at2_sh {rows:List (List V)} {i j:Nat} {c:V} (h:at2 (V.shR rows) i j=some c):∃ c',at2 rows i j=some c'/\c=c'.sh:=by
 unfold at2 at h ⊢
 rw [shR_get] at h
 cases hr:rows[i]? with
 |none=>simp [hr] at h
 |some r =>
  simp only [hr,Option.map_some,Option.bind_some,shL_get,Option.map_eq_some_iff] at h
  obtain ⟨c',h1,rfl⟩:=h
  exact ⟨c',by simpa using h1,rfl⟩
mutual
theorem closed_sh:∀ v:V,v.closed=true->v.sh.closed=true
 |.undef,h=>by simp [V.closed] at h
 |.bool _,_|.int _ _,_|.str _,_|.nilp,_|.nilf,_|.nils _,_=>by simp [V.sh,V.closed]
 |.ptr _ _,h=>by simp [V.closed] at h
 |.rptr _ _ _,h=>by simp [V.closed] at h
 |.sref _ _ _,h=>by simp [V.closed] at h
 |.sl _ _ _,_=>by simp [V.sh,V.closed]
 |.cp cs _,h=>by simp only [V.closed] at h; simp only [V.sh,V.closed]; exact closedL_sh cs h
 |.agg cs,h=>by simp only [V.closed] at h; simp only [V.sh,V.closed]; exact closedL_sh cs h
 |.tup cs,h=>by simp only [V.closed] at h; simp only [V.sh,V.closed]; exact closedL_sh cs h
 |.fn _ a b,h=>by
  simp only [V.closed,Bool.and_eq_true] at h
  simp only [V.sh,V.closed,Bool.and_eq_true]
  exact ⟨closedL_sh a h.1,closedL_sh b h.2⟩
 |.mp _,h=>by simp [V.closed] at h
 |.own _ _,h=>by simp [V.closed] at h
 |.io _,h=>by simp [V.closed] at h
 |.ownm _ _,h=>by simp [V.closed] at h
theorem closedL_sh:∀ l:List V,V.closedL l=true->V.closedL (V.shL l)=true
 |[],_=>rfl
 |v::l,h=>by
  simp only [V.closedL,Bool.and_eq_true] at h
  simp only [V.shL,V.closedL,Bool.and_eq_true]
  exact ⟨closed_sh v h.1,closedL_sh l h.2⟩
end
mutual
theorem closed_of_sh:∀ v:V,v.sh.closed=true->v.closed=true
 |.undef,h=>by simp [V.sh,V.closed] at h
 |.bool _,_|.int _ _,_|.str _,_|.nilp,_|.nilf,_|.nils _,_=>by simp [V.closed]
 |.ptr _ _,h=>by simp [V.sh,V.closed] at h
 |.rptr _ _ _,h=>by simp [V.sh,V.closed] at h
 |.sref _ _ _,h=>by simp [V.sh,V.closed] at h
 |.sl _ _ _,_=>by simp [V.closed]
 |.cp cs _,h=>by simp only [V.sh,V.closed] at h ⊢; exact closedL_of_sh cs h
 |.agg cs,h=>by simp only [V.sh,V.closed] at h ⊢; exact closedL_of_sh cs h
 |.tup cs,h=>by simp only [V.sh,V.closed] at h ⊢; exact closedL_of_sh cs h
 |.fn _ a b,h=>by
  simp only [V.sh,V.closed,Bool.and_eq_true] at h ⊢
  exact ⟨closedL_of_sh a h.1,closedL_of_sh b h.2⟩
 |.mp _,h=>by simp [V.sh,V.closed] at h
 |.own _ _,h=>by simp [V.sh,V.closed] at h
 |.io _,h=>by simp [V.sh,V.closed] at h
 |.ownm _ _,h=>by simp [V.sh,V.closed] at h
theorem closedL_of_sh:∀ l:List V,V.closedL (V.shL l)=true->V.closedL l=true
 |[],_=>rfl
 |v::l,h=>by
  simp only [V.shL,V.closedL,Bool.and_eq_true] at h ⊢
  exact ⟨closed_of_sh v h.1,closedL_of_sh l h.2⟩
end
theorem mapR {cs:List V} {us:List Value} {f:V->V} (hl:cs.length=us.length) (h:∀ (j:Nat) (c:V),cs[j]?=some c->R C (f c) (us.getD j undef)) :
  (cs.map f).length=us.length/\∀ (j:Nat) (c:V),(cs.map f)[j]?=some c->R C c (us.getD j undef):=by
 refine ⟨by simpa using hl,fun j c hj=>?_⟩
 simp only [List.getElem?_map,Option.map_eq_some_iff] at hj
 obtain ⟨c',h1,rfl⟩:=hj
 exact h j c' h1
theorem shL_eq (l:List V):V.shL l=l.map V.sh:=by
 induction l with
 |nil=>rfl
 |cons v l ih=>simp [V.shL,ih]
theorem R_shG {v:V} {u:Value} (h:R C v u) (G':Nat->Prop):R { C with G:=G' } v.sh u:=by
 induction h with
 |undef u=>exact .undef u
 |bool b=>exact .bool b
 |int k m=>exact .int k m
 |str s=>exact .str s
 |nilp=>exact .nilp
 |nilf=>exact .nilf
 |ptr r off cs L h hl=>exact .ptr r off cs L h hl
 |rptr r i off s rs L h hl hi=>exact .rptr r i off s rs L h hl hi
 |sref r i m s rs L h hl hi=>exact .sref r i m s rs L h hl hi
 |srefNil r s h hl=>exact .srefNil r s h hl
 |srefZ r i s rs b off h hi=>exact .srefZ r i s rs b off h hi
 |mp r ks vs L h hl=>exact .mp r ks vs L h hl
 |nils s=>exact .nils s
 |nilsSome s b off=>exact .nilsSome s b off
 |slNil fr s=>exact .slNil false s
 |slZ fr s a=>exact .slZ false s a
 |sl fr s rows b base cap g hc hm hu hfr hcell hcl hr ih =>
  simp only [V.sh]
  rw [<- shR_len rows]
  refine .sl false s _ b base cap g (by rw [shR_len]; exact hc) hm (fun r hr'=>?_) (by simp) (fun i j c hij=>?_) (fun i j c hij=>?_) (fun i j c hij=>?_)
  ·obtain ⟨i,hi⟩:=List.getElem?_of_mem hr'
   rw [shR_get,Option.map_eq_some_iff] at hi
   obtain ⟨r',h1,rfl⟩:=hi
   rw [shL_len]; exact hu r' (List.mem_of_getElem? h1)
  ·obtain ⟨c',h1,rfl⟩:=at2_sh hij; exact hcell i j c' h1
  ·obtain ⟨c',h1,rfl⟩:=at2_sh hij; exact closed_sh _ (hcl i j c' h1)
  ·obtain ⟨c',h1,rfl⟩:=at2_sh hij; exact ih i j c' h1
 |cp cs off b base g hcell hcl hr ih =>
  simp only [V.sh]
  refine .cp _ off b base g (fun j c hj=>?_) (fun j c hj=>?_) (fun j c hj=>?_)
  all_goals
   rw [shL_get,Option.map_eq_some_iff] at hj
   obtain ⟨c',h1,rfl⟩:=hj
  ·exact hcell j c' h1
  ·exact closed_sh _ (hcl j c' h1)
  ·exact ih j c' h1
 |agg cs us hl h1 hr ih =>
  simp only [V.sh,shL_eq]
  obtain ⟨l,r⟩:=mapR hl ih
  exact .agg _ us l h1 r
 |tup vs us hl hr ih =>
  simp only [V.sh,shL_eq]
  obtain ⟨l,r⟩:=mapR hl ih
  exact .tup _ us l r
 |fn f first caps us ws hl hl' hr hr' ih ih' =>
  simp only [V.sh,shL_eq]
  obtain ⟨l,r⟩:=mapR hl ih
  obtain ⟨l',r'⟩:=mapR hl' ih'
  exact .fn f _ _ us ws l l' r r'
theorem R_sh {v:V} {u:Value} (h:R C v u):R C v.sh u:=R_shG h C.G
theorem RB1_shG {v:V} {u:Value} (h:RB1 C v u) (G':Nat->Prop):RB1 { C with G:=G' } v.sh u:=by
 by_cases hv:∃ s rows,v=.own s rows
 ·obtain ⟨s,rows,rfl⟩:=hv
  rw [RB1_own] at h
  simp only [V.sh]
  rw [RB1_own]
  rw [OwnR_iff] at h ⊢
  rcases h with ⟨rfl,hu⟩|⟨b,cap,h1,h2,h3,h4,h5,cur,e,g,h6,h7,h8⟩
  ·exact .inl ⟨rfl,hu⟩
  ·refine .inr ⟨b,cap,by rw [shR_len]; exact h1,h2,by rw [shR_len]; exact h3,h4,fun r hr=>?_,cur,e,g,h6,h7,fun i j c hij=>?_⟩
   ·obtain ⟨i,hi⟩:=List.getElem?_of_mem hr
    rw [shR_get,Option.map_eq_some_iff] at hi
    obtain ⟨r',q1,rfl⟩:=hi
    rw [shL_len]; exact h5 r' (List.mem_of_getElem? q1)
   ·obtain ⟨c',q1,rfl⟩:=at2_sh hij
    obtain ⟨a1,a2,a3,a4⟩:=h8 i j c' q1
    exact ⟨a1,a2,closed_sh _ a3,R_shG a4 G'⟩
 ·have hne:∀ s rows,v≠.own s rows:=fun s rows e=>hv ⟨s,rows,e⟩
  by_cases hm:∃ ks vs,v=.ownm ks vs
  ·obtain ⟨ks,vs,rfl⟩:=hm
   obtain ⟨b,clock,ents,h1,h2,h3,h4,h5,h6⟩:=h
   simp only [V.sh]
   refine ⟨b,clock,ents,h1,h2,h3,(shL_len vs).trans h4,fun j k hj=>?_,fun j v hj=>?_⟩
   ·obtain ⟨a1,e,a2,a3⟩:=h5 j k hj
    refine ⟨a1,e,a2,?_⟩
    have:=R_shG a3 G'
    have ek:k.sh=k:=by cases k <;> simp [V.keyOk] at a1 <;> rfl
    rwa [ek] at this
   ·rw [shL_get,Option.map_eq_some_iff] at hj
    obtain ⟨v',hj,rfl⟩:=hj
    obtain ⟨a1,e,a2,a3⟩:=h6 j v' hj
    exact ⟨closed_sh _ a1,e,a2,R_shG a3 G'⟩
  have hm':∀ ks vs,v≠.ownm ks vs:=fun ks vs e=>hm ⟨ks,vs,e⟩
  rw [RB1_other hne hm'] at h
  have:∀ s rows,v.sh≠.own s rows:=fun s rows e=>by
   cases v <;> simp only [V.sh] at e <;> first|exact hne _ _ rfl|cases e
  have this':∀ ks vs,v.sh≠.ownm ks vs:=fun ks vs e=>by
   cases v <;> simp only [V.sh] at e <;> first|exact hm' _ _ rfl|cases e
  rw [RB1_other this this']
  exact R_shG h G'
theorem owns1_sh {v:V} {u:Value}:owns1 v.sh u=owns1 v u:=by
 cases v with
 |own s rows=>cases u with
  |slice a l c=>cases a <;> simp [V.sh,owns1]
  |_=>simp [V.sh,owns1]
 |ownm ks vs=>cases u with
  |map b=>cases b <;> simp [V.sh,owns1]
  |_=>simp [V.sh,owns1]
 |_=>simp [V.sh,owns1]
def Lent (C:Ctx) (b off:Nat):Prop:=C.F b off\/∃ r L,C.loc r=some L/\(C.heap r).isDead=false/\L.blk=b
theorem lent_closed {v:V} {u:Value} (h:R C v u) (hv:v.closed=true):R (bare C.w (Lent C) C.G) v u :=
 R.of_closed (C':=bare C.w (Lent C) C.G) (fun _ _ hf=>⟨Or.inl hf,rfl⟩) (fun _ h=>h) h hv
theorem frz_sound (h:Inv E n C st a):∀ (k:Nat) (v:V) (u:Value),R C v u->(frz st k v).closed=true->R (bare C.w (Lent C) C.G) (frz st k v) u
 |0,v,u,hR,hc=>by
  have e:frz st 0 v=v:=by unfold frz; cases v <;> rfl
  rw [e] at hc ⊢
  exact lent_closed hR hc
 |k + 1,v,u,hR,hc=>by
  have ih:=frz_sound h k
  have other:frz st (k+1) v=v->R (bare C.w (Lent C) C.G) (frz st (k+1) v) u:=fun e=>by
   rw [e] at hc ⊢; exact lent_closed hR hc
  cases hR with
  |undef|bool|int|str|nilp|nilf|slNil|slZ|sl|cp|mp=>exact other rfl
  |ptr r off cs L g1 g2 =>
   have hh:st.heap r=.box cs:=by rw [<- h.heap]; exact g1
   have ho:=h.objs r
   unfold ObjOk at ho
   rw [g1] at ho
   obtain ⟨L',hl',⟨cur,e,g,hb,hcell⟩,_⟩:=ho
   rw [g2] at hl'; cases hl'
   simp only [frz,hh] at hc ⊢
   simp only [V.closed] at hc
   refine .cp _ off L.blk L.base g (fun j c hj=>?_) (fun j c hj=>closedL_all hc j c hj) (fun j c hj=>?_)
   all_goals
    have hcl:=closedL_all hc j c hj
    simp only [List.getElem?_map,Option.map_eq_some_iff] at hj
    obtain ⟨c',h1,rfl⟩:=hj
    obtain ⟨a1,a2,a3⟩:=hcell j c' h1
   ·exact ⟨by rw [show (bare C.w (Lent C) C.G).w=C.w from rfl,cell_of_row _ _ _ _ _ _ hb]; exact a1,.inr ⟨r,L,g2,by rw [g1]; rfl,rfl⟩,a2⟩
   ·exact ih c' _ a3 hcl
  |rptr r i off s rs L g1 g2 g3 =>
   have hh:st.heap r=.rows s rs:=by rw [<- h.heap]; exact g1
   have ho:=h.objs r
   unfold ObjOk at ho
   rw [g1] at ho
   rcases ho with ⟨_,ho⟩|⟨L',hl',q0,q1,q2,q3,⟨cur,e,g,hb,hcs,hcell⟩,_⟩
   ·rw [g2] at ho; cases ho
   rw [g2] at hl'; cases hl'
   simp only [frz,hh]
   refine .cp _ off L.blk (i * s) (g i) (fun j c hj=>?_) (fun j c hj=>?_) (fun j c hj=>?_)
   all_goals obtain ⟨a1,a2,a3,a4⟩:=hcell i j c (at2_some g3 hj)
   ·exact ⟨by rw [show (bare C.w (Lent C) C.G).w=C.w from rfl,cell_of_row _ _ _ _ _ _ hb]; exact a1,.inr ⟨r,L,g2,by rw [g1]; rfl,rfl⟩,a2⟩
   ·exact a3
   ·exact lent_closed a4 a3
  |sref r i m s rs L g1 g2 g3 =>
   have hh:st.heap r=.rows s rs:=by rw [<- h.heap]; exact g1
   have ho:=h.objs r
   unfold ObjOk at ho
   rw [g1] at ho
   rcases ho with ⟨_,ho⟩|⟨L',hl',q0,q1,q2,q3,⟨cur,e,g,hb,hcs,hcell⟩,_⟩
   ·rw [g2] at ho; cases ho
   rw [g2] at hl'; cases hl'
   simp only [frz,hh]
   have hlen:((rs.drop i).take m).length=m:=by simp; omega
   have:=R.sl (C:=bare C.w (Lent C) C.G) false s ((rs.drop i).take m) L.blk (i * s) (L.cap - i) (fun i' j=>g (i+i') j) (by omega) (by omega) (fun r' hr'=>q3 r' (List.drop_subset _ _ (List.take_subset _ _ hr'))) (by simp)
    (fun i' j c hij=>by
     obtain ⟨h1,_⟩:=at2_seg hij
     obtain ⟨a1,a2,a3,a4⟩:=hcell _ _ _ h1
     refine ⟨?_,.inr ⟨r,L,g2,by rw [g1]; rfl,rfl⟩,a2⟩
     rw [show (bare C.w (Lent C) C.G).w=C.w from rfl,cell_of_row _ _ _ _ _ _ hb,<- a1,Nat.add_mul])
    (fun i' j c hij=>(hcell _ _ _ (at2_seg hij).1).2.2.1)
    (fun i' j c hij=>lent_closed (hcell _ _ _ (at2_seg hij).1).2.2.2 (hcell _ _ _ (at2_seg hij).1).2.2.1)
   rw [hlen] at this
   exact this
  |srefNil r s g1 g2 =>
   have hh:st.heap r=.rows s []:=by rw [<- h.heap]; exact g1
   simp only [frz,hh]
   exact .slNil false s
  |srefZ r i s rs b off g1 g2 =>
   have hh:st.heap r=.rows s rs:=by rw [<- h.heap]; exact g1
   simp only [frz,hh,List.take_zero]
   exact .sl false s [] b off 0 (fun _ _=>undef) (by simp) (by simp [maxLen]) (by simp) (by simp) (fun i j c hij=>by simp [at2] at hij) (fun i j c hij=>by simp [at2] at hij) (fun i j c hij=>by simp [at2] at hij)
  |nils s=>simp only [frz]; exact .slNil false s
  |nilsSome s b off =>
   simp only [frz]
   exact .sl false s [] b off 0 (fun _ _=>undef) (by simp) (by simp [maxLen]) (by simp) (by simp) (fun i j c hij=>by simp [at2] at hij) (fun i j c hij=>by simp [at2] at hij) (fun i j c hij=>by simp [at2] at hij)
  |agg cs us hl h1 hr =>
   simp only [frz] at hc ⊢
   simp only [V.closed] at hc
   obtain ⟨l,r⟩:=mapR (C:=bare C.w (Lent C) C.G) (f:=frz st k) hl (fun j c hj=>ih c _ (hr j c hj) (closedL_all hc j _ (by simp [hj])))
   exact .agg _ us l h1 r
  |tup cs us hl hr =>
   simp only [frz] at hc ⊢
   simp only [V.closed] at hc
   obtain ⟨l,r⟩:=mapR (C:=bare C.w (Lent C) C.G) (f:=frz st k) hl (fun j c hj=>ih c _ (hr j c hj) (closedL_all hc j _ (by simp [hj])))
   exact .tup _ us l r
  |fn f first caps us ws hl hl' hr hr' =>
   simp only [frz] at hc ⊢
   simp only [V.closed,Bool.and_eq_true] at hc
   obtain ⟨l,r⟩:=mapR (C:=bare C.w (Lent C) C.G) (f:=frz st k) hl (fun j c hj=>ih c _ (hr j c hj) (closedL_all hc.1 j _ (by simp [hj])))
   obtain ⟨l',r'⟩:=mapR (C:=bare C.w (Lent C) C.G) (f:=frz st k) hl' (fun j c hj=>ih c _ (hr' j c hj) (closedL_all hc.2 j _ (by simp [hj])))
   exact .fn f _ _ us ws l l' r r'
end Go.Ab

namespace Go.Ab
open Go
variable {E:Ent} {n:Sz} {C:Ctx} {st:St} {a:Act} {P:Program}
def Wk (o o':AO):Prop:=o'=o\/∃ cs cs',o=.box cs/\o'=.box cs'/\cs'.length=cs.length/\∀ (j:Nat) (c:V),cs'[j]?=some c->c=.undef\/cs[j]?=some c
theorem Wk.refl (o:AO):Wk o o:=.inl rfl
theorem Wk.trans {o o' o'':AO} (h:Wk o o') (h':Wk o' o''):Wk o o'':=by
 rcases h with rfl|⟨cs,cs',rfl,rfl,l1,c1⟩
 ·exact h'
 ·rcases h' with rfl|⟨cs2,cs3,e2,rfl,l2,c2⟩
  ·exact .inr ⟨cs,cs',rfl,rfl,l1,c1⟩
  ·cases e2
   exact .inr ⟨cs,cs3,rfl,rfl,l2.trans l1,fun j c hj=>(c2 j c hj).elim .inl fun h=>c1 j c h⟩
theorem Wk.dead {o o':AO} (h:Wk o o'):o'.isDead=o.isDead:=by
 rcases h with rfl|⟨cs,cs',rfl,rfl,_⟩ <;> rfl
theorem Inv.weak (h:Inv E n C st a) {st':St} (he:∀ t,st'.env t=st.env t) (hw:∀ r,Wk (st.heap r) (st'.heap r)) :
  Inv E n { C with heap:=st'.heap } st' a/\Le C { C with heap:=st'.heap }:=by
 have hw':∀ r,Wk (C.heap r) (st'.heap r):=fun r=>by rw [h.heap]; exact hw r
 have hc:Le C { C with heap:=st'.heap }:=by
  refine ⟨fun b off hf=>⟨hf,rfl⟩,fun _ h=>h,fun r cs _ hr=>⟨?_,rfl⟩,fun r s rs _ hr=>⟨?_,rfl⟩,fun r ks vs _ hr=>⟨?_,rfl⟩⟩
  ·rcases hw' r with h1|⟨c1,c2,_,h2,_⟩
   ·exact ⟨cs,h1.trans hr⟩
   ·exact ⟨c2,h2⟩
  ·rcases hw' r with h1|⟨c1,c2,h1,_,_⟩
   ·exact ⟨rs,h1.trans hr,rfl⟩
   ·rw [hr] at h1; cases h1
  ·rcases hw' r with h1|⟨c1,c2,h1,_,_⟩
   ·exact ⟨ks,vs,h1.trans hr⟩
   ·rw [hr] at h1; cases h1
 refine ⟨{
   heap:=rfl,env:=fun t=>by rw [he]; exact (h.env t).mono hc
   objs:=fun r=>?_
   inj:=fun r r' L L' hl hl' hr hr' hb=>h.inj r r' L L' hl hl' (by rw [<- (hw' r).dead]; exact hr) (by rw [<- (hw' r').dead]; exact hr') hb
   fin:=h.fin,gnew:=h.gnew,gsub:=h.gsub,par:=h.par,fnew:=h.fnew,frame:=h.frame,marks:=h.marks,mnd:=h.mnd,fkeep:=h.fkeep,stay:=h.stay,wsz:=h.wsz,mball:=h.mball,size:=h.size },hc⟩
 rcases hw' r with h1|⟨c1,c2,h1,h2,h3,h4⟩
 ·exact (h.objs r).mono hc ⟨fun _ _ _ _ _=>⟨rfl,rfl,fun _ h=>h⟩⟩ h1 rfl fun L _ _=>⟨rfl,fun _ h=>h,fun h=>h⟩
 ·have ho:=h.objs r
  unfold ObjOk at ho ⊢
  rw [h1] at ho
  simp only [h2]
  obtain ⟨L,g1,⟨cur,e,g,g2,g3⟩,g4,g5⟩:=ho
  refine ⟨L,g1,⟨cur,e,g,g2,fun j c hj=>?_⟩,fun j hj=>g4 j (h3 ▸ hj),g5⟩
  have hlt:j < c1.length:=by rw [<- h3]; exact (List.getElem?_eq_some_iff.1 hj).1
  obtain ⟨a1,a2,a3⟩:=g3 j c1[j] (by simp [hlt])
  refine ⟨a1,a2,?_⟩
  rcases h4 j c hj with rfl|h5
  ·exact .undef _
  ·simp only [List.getElem?_eq_getElem hlt,Option.some.injEq] at h5
   subst h5
   exact a3.mono hc
theorem sameBut_cell {W:Nat->Nat->Prop} {w w':World} {b off:Nat} (h:sameBut (W b) (w.heap[b]?) (w'.heap[b]?)) (hw:¬ W b off):w'.cell? ⟨b,off,none⟩=w.cell? ⟨b,off,none⟩:=by
 cases ho:w.heap[b]? with
 |none =>
  rw [ho] at h
  exact World.cell?_of_block (a:=⟨b,off,none⟩) (by simp only [ho]; cases hq:w'.heap[b]? <;> rw [hq] at h <;> simp [sameBut] at h ⊢)
 |some o =>
  rw [ho] at h
  cases o with
  |cells c e fr =>
   cases hq:w'.heap[b]? with
   |none=>rw [hq] at h; simp [sameBut] at h
   |some o' =>
    rw [hq] at h
    cases o' with
    |cells c' e' fr' =>
     simp only [sameBut] at h
     obtain ⟨_,_,_,h4⟩:=h
     rw [cell_of_row _ _ _ _ _ _ hq,cell_of_row _ _ _ _ _ _ ho]
     exact h4 off hw
    |_=>simp [sameBut] at h
  |_ =>
   exact World.cell?_of_block (a:=⟨b,off,none⟩) (by simp only [ho]; cases hq:w'.heap[b]? <;> rw [hq] at h <;> simp [sameBut] at h ⊢; exact h)
theorem Frame.trans {w0 w w':World} {W V:Nat->Nat->Prop} (h:Frame w0 w W) (h':Frame w w' V) (hv:∀ b off,V b off->b < w0.heap.size->W b off):Frame w0 w' W:=by
 refine ⟨h'.os.trans h.os,h'.output.trans h.output,h'.tape.trans h.tape,Nat.le_trans h.size h'.size,fun b hb=>?_⟩
 have h1:=h.same b hb
 have h2:=h'.same b (Nat.lt_of_lt_of_le hb h.size)
 cases ho:w0.heap[b]? with
 |none =>
  rw [ho] at h1
  cases hq:w.heap[b]? with
  |none =>
   rw [hq] at h2
   cases hz:w'.heap[b]? with
   |none=>rfl
   |some o=>rw [hz] at h2; simp [sameBut] at h2
  |some o=>rw [hq] at h1; simp [sameBut] at h1
 |some o =>
  rw [ho] at h1
  cases o with
  |cells c e fr =>
   cases hq:w.heap[b]? with
   |none=>rw [hq] at h1; simp [sameBut] at h1
   |some o' =>
    rw [hq] at h1 h2
    cases o' with
    |cells c' e' fr' =>
     cases hz:w'.heap[b]? with
     |none=>rw [hz] at h2; simp [sameBut] at h2
     |some o2 =>
      rw [hz] at h2
      cases o2 with
      |cells c2 e2 fr2 =>
       simp only [sameBut] at h1 h2 ⊢
       obtain ⟨a1,a2,a3,a4⟩:=h1
       obtain ⟨b1,b2,b3,b4⟩:=h2
       exact ⟨b1.trans a1,b2.trans a2,b3.trans a3,fun off hw=>(b4 off fun hv'=>hw (hv b off hv' hb)).trans (a4 off hw)⟩
      |_=>simp [sameBut] at h2
    |_=>simp [sameBut] at h1
  |_ =>
   have e1:=h1
   simp only [sameBut] at e1
   rw [e1] at h2
   cases hz:w'.heap[b]? <;> rw [hz] at h2 <;> simp [sameBut] at h2 ⊢
   exact h2
theorem sameBut_row {W:Nat->Prop} {o':Option Obj} {cur:Array Value} {e:TypeId} (h:sameBut W (some (.cells cur e (0,0))) o') :
  ∃ cur',o'=some (.cells cur' e (0,0))/\cur'.size=cur.size/\∀ off,¬ W off->cur'[off]?=cur[off]?:=by
 cases o' with
 |none=>simp [sameBut] at h
 |some o =>
  cases o with
  |cells c' e' fr' =>
   simp only [sameBut] at h
   obtain ⟨rfl,rfl,h3,h4⟩:=h
   exact ⟨c',rfl,h3,h4⟩
  |_=>simp [sameBut] at h
theorem sameBut_odd {W:Nat->Prop} {o:Obj} {o':Option Obj} {b:Nat} (ho:KeepO E b o) (h:sameBut W (some o) o'):o'=some o:=by
 cases o with
 |cells c e fr=>cases ho
 |_=>exact h
theorem sameBut_eq {W:Nat->Prop} (hW:∀ off,¬ W off):∀ {o o':Option Obj},sameBut W o o'->o'=o:=by
 intro o o' h
 cases o with
 |none=>exact h
 |some o =>
  cases o with
  |cells c e fr =>
   cases o' with
   |none=>simp [sameBut] at h
   |some o' =>
    cases o' with
    |cells c' e' fr' =>
     obtain ⟨h1,h2,h3,h4⟩:=h
     subst h1 h2
     have:c'=c:=Array.ext_getElem? fun i=>h4 i (hW i)
     rw [this]
    |_=>simp [sameBut] at h
  |_=>exact h
theorem Inv.world (h:Inv E n C st a) {w':World} {W F':Nat->Nat->Prop} (hx:Frame C.w w' W)
  (hWF:∀ b off,W b off->¬ C.F b off)
  (hWE:∀ b off,W b off->E.w0.heap.size<=b\/E.Wr b off)
  (hF:∀ b off,C.F b off->F' b off)
  (hF':∀ b off,F' b off->C.F b off\/(b < w'.heap.size/\C.G b/\(∀ r L,C.loc r=some L->(C.heap r).isDead=false->L.blk≠b)/\∀ o,¬ C.F b o))
  (hWe:∀ b off,W b off->C.F b 0->¬ C.G b)
  (hmap:∀ r ks vs L off,C.heap r=.mp ks vs->C.loc r=some L->¬ W L.blk off)
  (hbox:∀ r cs L j c,C.heap r=.box cs->C.loc r=some L->cs[j]?=some c->W L.blk (L.base+j)->c=.undef/\∃ u,w'.cell? ⟨L.blk,L.base+j,none⟩=some u/\u.oneCell'=true)
  (hrows:∀ r s rs L off,C.heap r=.rows s rs->C.loc r=some L->¬ W L.blk off) :
  Inv E n { C with w:=w',F:=F' } st a/\Le C { C with w:=w',F:=F' }:=by
 have hc:Le C { C with w:=w',F:=F' } :=
  ⟨fun b off hf=>⟨hF b off hf,sameBut_cell (hx.same b (h.fin b off hf)) fun hw=>hWF b off hw hf⟩,fun _ h=>h,fun _ cs _ h=>⟨⟨cs,h⟩,rfl⟩,fun _ _ rs _ h=>⟨⟨rs,h,rfl⟩,rfl⟩,fun _ ks vs _ h=>⟨⟨ks,vs,h⟩,rfl⟩⟩
 have hh:Hist E { C with w:=w',F:=F' } a:=h.hist hc.F (fun b o ho hb=>sameBut_odd ho (by have:=hx.same b (block_lt hb); rw [hb] at this; exact this)) hx.size
 refine ⟨{
   heap:=h.heap,env:=fun t=>(h.env t).mono hc
   objs:=fun r=>?_
   inj:=h.inj
   fin:=fun b off hf=>by
    rcases hF' b off hf with h1|h1
    ·exact Nat.lt_of_lt_of_le (h.fin b off h1) hx.size
    ·exact h1.1
   gnew:=h.gnew,gsub:=h.gsub,par:=h.par
   fnew:=fun b off hf=>by
    rcases hF' b off hf with h1|h1
    ·exact h.fnew b off h1
    ·exact .inr h1.2.1
   frame:=h.frame.trans hx fun b off hw hb=>(hWE b off hw).resolve_left (Nat.not_le.2 hb)
   marks:=hh.marks,mnd:=hh.mnd,fkeep:=hh.fkeep,stay:=hh.stay,wsz:=hh.wsz,mball:=h.mball,size:=h.size },hc⟩
 have ho:=h.objs r
 have hlt:∀ L,C.loc r=some L->(C.heap r).isDead=false->L.blk < C.w.heap.size:=fun L hl ha=>(h.objs r).lt hl ha
 have hFr:∀ L,C.loc r=some L->(C.heap r).isDead=false->∀ off,F' L.blk off->C.F L.blk off:=fun L hl ha off hf=>(hF' _ _ hf).resolve_right fun hq=>hq.2.2.1 r L hl ha rfl
 unfold ObjOk at ho ⊢
 cases hh:C.heap r with
 |dead=>simp
 |box cs =>
  rw [hh] at ho
  simp only
  obtain ⟨L,g1,⟨cur,e,g,g2,g3⟩,g4,g5⟩:=ho
  have al:(C.heap r).isDead=false:=by rw [hh]; rfl
  have hs:=hx.same _ (hlt L g1 al)
  rw [g2] at hs
  obtain ⟨cur',q1,q2,q3⟩:=sameBut_row hs
  refine ⟨L,g1,⟨cur',e,fun j=>(cur'[L.base+j]?).getD undef,q1,fun j c hj=>?_⟩,fun j hj=>⟨fun hf=>(g4 j hj).1 (hFr L g1 al _ hf),(g4 j hj).2⟩,
   g5.imp (fun h1 off hf=>h1 off (hFr L g1 al _ hf)) (fun h1=>h1)⟩
  obtain ⟨a1,a2,a3⟩:=g3 j c hj
  by_cases hw:W L.blk (L.base+j)
  ·obtain ⟨rfl,u,u1,u2⟩:=hbox r cs L j c hh g1 hj hw
   rw [cell_of_row _ _ _ _ _ _ q1] at u1
   simp only [u1,Option.getD_some]
   exact ⟨trivial,u2,.undef _⟩
  ·simp only [q3 _ hw,a1,Option.getD_some]
   exact ⟨trivial,a2,a3.mono hc⟩
 |rows s rs =>
  rw [hh] at ho
  simp only
  rcases ho with ho|⟨L,g1,g0,g2,g3,g4,⟨cur,e,g,g5,g6,g7⟩,g8,g9⟩
  ·exact .inl ho
  ·have al:(C.heap r).isDead=false:=by rw [hh]; rfl
   have hs:=hx.same _ (hlt L g1 al)
   rw [g5] at hs
   obtain ⟨cur',q1,q2,q3⟩:=sameBut_row hs
   refine .inr ⟨L,g1,g0,g2,g3,g4,⟨cur',e,g,q1,q2.trans g6,fun i j c hij=>?_⟩,fun off=>⟨fun hf=>(g8 off).1 (hFr L g1 al _ hf),(g8 off).2⟩,g9⟩
   obtain ⟨a1,a2,a3,a4⟩:=g7 i j c hij
   exact ⟨(q3 _ (hrows r s rs L _ hh g1)).trans a1,a2,a3,a4.mono hc⟩
 |mp ks vs =>
  rw [hh] at ho
  simp only
  obtain ⟨L,g1,g2⟩:=ho
  have al:(C.heap r).isDead=false:=by rw [hh]; rfl
  refine ⟨L,g1,g2.mono hc ⟨fun b _ _ hF hG=>⟨rfl,?_,fun off hf=>(hF' b off hf).resolve_right fun hq=>hq.2.2.2 0 hF⟩⟩ ?_ (hFr L g1 al)⟩
  ·exact sameBut_eq (fun off hw=>hWe b off hw hF hG) (hx.same b (h.fin b 0 hF))
  ·exact sameBut_eq (fun off hw=>hmap r ks vs L off hh g1 hw) (hx.same _ (hlt L g1 al))
end Go.Ab

namespace Go.Ab
open Go
variable {E:Ent} {n:Sz} {C:Ctx} {st:St} {a:Act} {P:Program}
def blkOf (C:Ctx) (r:Nat):Option Nat:=(C.loc r).map (·.blk)
theorem blkOf_some {r:Nat} {L:Loc} (h:C.loc r=some L):blkOf C r=some L.blk:=by simp [blkOf,h]
theorem okGiven_other {c:V} (h:V.okGiven c=true) (hne:∀ s rows,c≠.own s rows):c.closed=true/\(∀ vs,c≠.tup vs)/\(∀ vs,c≠.agg vs):=by
 unfold V.okGiven at h
 split at h
 ·exact absurd rfl (hne _ _)
 ·simp only [Bool.and_eq_true] at h
  refine ⟨h.1,fun vs e=>?_,fun vs e=>?_⟩ <;> subst e <;> simp at h
theorem giveC_other {c:V} (h:∀ r k,c≠.sref r 0 k) (h':∀ s,c≠.nils s) (h2:∀ r,c≠.mp r):giveC st c=c:=by
 unfold giveC; split
 ·exact absurd rfl (h _ _)
 ·exact absurd rfl (h' _)
 ·exact absurd rfl (h2 _)
 ·rfl
def okGood (good:V->Bool):V->Bool
 |.own _ rows=>rows.all (·.all good)
 |.ownm _ vs=>vs.all fun v=>v.closed&&good v
 |v=>v.closed&&good v&&(match v with|.tup _=>false|.agg _=>false|_=>true)
theorem okGood_other {good:V->Bool} {c:V} (h:okGood good c=true) (hne:∀ s rows,c≠.own s rows) (hnm:∀ ks vs,c≠.ownm ks vs):c.closed=true/\good c=true/\(∀ vs,c≠.tup vs)/\(∀ vs,c≠.agg vs):=by
 unfold okGood at h
 split at h
 ·exact absurd rfl (hne _ _)
 ·exact absurd rfl (hnm _ _)
 ·simp only [Bool.and_eq_true] at h
  refine ⟨h.1.1,h.1.2,fun vs e=>?_,fun vs e=>?_⟩ <;> subst e <;> simp at h
theorem EntOk.value {r j:Nat} {v:V} {u:Value} (h:EntOk E C r j v u):v.unown.closed=true/\R C v.unown u:=by
 by_cases hv:∃ s rows,v=.own s rows
 ·obtain ⟨s,rows,rfl⟩:=hv
  obtain ⟨b,cap,cur,e,g,rfl,h2,h3,h4,h5,h6,h7,h8,h9,h10,h11,h12,h13⟩:=h
  refine ⟨rfl,.sl true s rows b 0 cap g h4 h5 h6 (fun _ _=>h11) (fun i j c hij=>?_) (fun i j c hij=>(h9 i j c hij).2.2.2.1) (fun i j c hij=>(h9 i j c hij).2.2.2.2)⟩
  obtain ⟨a1,a2,a3,a4,a5⟩:=h9 i j c hij
  exact ⟨by rw [cell_of_row _ _ _ _ _ _ h7,Nat.zero_add]; exact a1,by rw [Nat.zero_add]; exact a3,a2⟩
 ·have hne:∀ s rows,v≠.own s rows:=fun s rows e=>hv ⟨s,rows,e⟩
  rw [EntOk.other hne] at h
  have:v.unown=v:=by unfold V.unown; split <;> first|exact absurd rfl (hne _ _)|rfl
  rw [this]; exact h
structure Given (C B:Ctx) (v:V) (u:Value) (os:List Nat):Prop where
 r:RB1 B v u
 owns:(owns1 v u).Sublist (os.filterMap (blkOf C))
theorem give_good (h:Inv E n C st a) {B:Ctx} {good:V->Bool} (hw:B.w=C.w) (hcl:∀ c u,R C c u->c.closed=true->good c=true->R B c u) {c:V} {u:Value} (hR:R C c u) (hok:okGood good (giveC st c)=true) :
  Given C B (giveC st c) u (objC c):=by
 by_cases h1:∃ r k,c=.sref r 0 k
 ·obtain ⟨r,k,rfl⟩:=h1
  simp only [giveC] at hok ⊢
  cases hh:st.heap r with
  |dead=>simp [hh,okGood,V.closed] at hok
  |box cs=>simp [hh,okGood,V.closed] at hok
  |mp ks vs=>simp [hh,okGood,V.closed] at hok
  |rows s rs =>
   simp only [hh] at hok ⊢
   by_cases hk:k=rs.length
   ·simp only [hk,if_true] at hok ⊢
    subst hk
    simp only [okGood,List.all_eq_true] at hok
    have hgood:∀ i j c,at2 rs i j=some c->good c=true:=fun i j c hij=>by
     obtain ⟨hi,hj⟩:=at2_lt hij
     exact hok _ (List.getElem_mem hi) _ (List.mem_of_getElem? hj)
    have ho:=h.objs r
    have hC:C.heap r=.rows s rs:=by rw [h.heap]; exact hh
    unfold ObjOk at ho
    rw [hC] at ho
    have fst:∀ u,((rs=[])/\(u=Value.slice none 0 0\/∃ b off,u=.slice (some ⟨b,off,none⟩) 0 0))->Given C B (.own s rs) u (objC (.sref r 0 rs.length)):=by
     rintro u ⟨rfl,hu⟩
     refine ⟨by rw [RB1_own,OwnR_iff]; exact .inl ⟨rfl,hu⟩,?_⟩
     rcases hu with rfl|⟨b,off,rfl⟩ <;> simp [owns1]
    have nil_of:rs.length=0->rs=[]:=List.eq_nil_of_length_eq_zero
    generalize hke:rs.length=k0 at hR
    cases hR with
    |sref _ _ _ s' rs' L q1 q2 q3 =>
     rw [hC] at q1; cases q1
     rcases ho with ⟨_,ho⟩|⟨L',hl',g0,g1,g2,g3,⟨cur,e,g,g4,g5,g6⟩,g7,g8⟩
     ·rw [q2] at ho; cases ho
     rw [q2] at hl'; cases hl'
     by_cases hcap:L.cap=0
     ·refine fst _ ⟨nil_of (by omega),.inr ⟨L.blk,0,?_⟩⟩
      have:rs.length=0:=by omega
      simp [<- hke,this,hcap]
     ·refine ⟨?_,?_⟩
      ·rw [RB1_own,OwnR_iff]
       refine .inr ⟨L.blk,L.cap,by simp [hke],Nat.pos_of_ne_zero hcap,g1,g2,g3,cur,e,g,by rw [hw]; exact g4,g5,fun i j c hij=>?_⟩
       obtain ⟨a1,a2,a3,a4⟩:=g6 i j c hij
       exact ⟨a1,a2,a3,hcl _ _ a4 a3 (hgood i j c hij)⟩
      ·simp [owns1,objC,blkOf_some q2,hcap]
    |srefNil _ s' q1 q2 =>
     exact fst _ ⟨nil_of hke,.inl rfl⟩
    |srefZ _ _ s' rs' b off q1 q2 =>
     exact fst _ ⟨nil_of hke,.inr ⟨b,off,rfl⟩⟩
   ·simp only [hk,if_false] at hok
    simp [okGood,V.closed] at hok
 ·by_cases h2:∃ s,c=.nils s
  ·obtain ⟨s,rfl⟩:=h2
   simp only [giveC]
   cases hR with
   |nils=>exact ⟨by rw [RB1_own,OwnR_iff]; exact .inl ⟨rfl,.inl rfl⟩,by simp [owns1]⟩
   |nilsSome _ b off=>exact ⟨by rw [RB1_own,OwnR_iff]; exact .inl ⟨rfl,.inr ⟨b,off,rfl⟩⟩,by simp [owns1]⟩
  ·by_cases h3:∃ r,c=.mp r
   ·obtain ⟨r,rfl⟩:=h3
    cases hR with
    |mp _ ks vs L q1 q2 =>
     have hh:st.heap r=.mp ks vs:=by rw [<- h.heap]; exact q1
     simp only [giveC,hh] at hok ⊢
     have ho:=h.objs r
     unfold ObjOk at ho
     rw [q1] at ho
     obtain ⟨L',hl',⟨clock,ents,g1,g2,g3,g4,g5⟩,g6,g7⟩:=ho
     rw [q2] at hl'; cases hl'
     simp only [okGood,List.all_eq_true,Bool.and_eq_true] at hok
     refine ⟨⟨L.blk,clock,ents,rfl,by rw [hw]; exact g1,g2,by simpa using g3,fun j k hj=>?_,fun j v hj=>?_⟩,by simp [owns1,objC,blkOf_some q2]⟩
     ·obtain ⟨a1,e,a2,a3⟩:=g4 j k hj
      refine ⟨a1,e,a2,?_⟩
      generalize e.key=ek at a3
      cases a3 <;> simp [V.keyOk] at a1 <;> constructor
     ·have hm:=hok v (List.mem_of_getElem? hj)
      simp only [List.getElem?_map,Option.map_eq_some_iff] at hj
      obtain ⟨v',hj,rfl⟩:=hj
      obtain ⟨e,a2,a3⟩:=g5 j v' hj
      obtain ⟨b1,b2⟩:=a3.value
      exact ⟨b1,e,a2,hcl _ _ b2 b1 hm.2⟩
   have e:=giveC_other (st:=st) (c:=c) (fun r k e=>h1 ⟨r,k,e⟩) (fun s e=>h2 ⟨s,e⟩) (fun r e=>h3 ⟨r,e⟩)
   rw [e] at hok ⊢
   have hne:∀ s rows,c≠.own s rows:=fun s rows e=>by subst e; cases hR
   have hnm:∀ ks vs,c≠.ownm ks vs:=fun s rows e=>by subst e; cases hR
   obtain ⟨k1,k2,_,_⟩:=okGood_other hok hne hnm
   refine ⟨by rw [RB1_other hne hnm]; exact hcl _ _ hR k1 k2,?_⟩
   have:owns1 c u=[]:=by unfold owns1; split <;> first|exact absurd rfl (hne _ _)|exact absurd rfl (hnm _ _)|rfl
   rw [this]; exact List.nil_sublist _
theorem okGiven_sh {v:V} (h:V.okGiven v.sh=true):okGood (fun _=>true) v=true:=by
 by_cases hv:∃ s rows,v=.own s rows
 ·obtain ⟨s,rows,rfl⟩:=hv
  simp [okGood]
 ·have hne:∀ s rows,v.sh≠.own s rows:=fun s rows e=>by
   cases v <;> simp only [V.sh] at e <;> first|exact hv ⟨_,_,rfl⟩|cases e
  obtain ⟨h1,h2,h3⟩:=okGiven_other h hne
  have h1':=closed_of_sh _ h1
  cases v <;> simp_all [okGood,V.sh,V.closed]
theorem give_sound (h:Inv E n C st a) {Φ:Nat->Nat->Prop} (hΦ:∀ b off,C.F b off->Φ b off) {c:V} {u:Value} (hR:R C c u) (hok:V.okGiven (giveC st c).sh=true) :
  Given C (bare C.w Φ C.G) (giveC st c).sh u (objC c):=by
 obtain ⟨h1,h2⟩:=give_good h (B:=bare C.w Φ C.G) (good:=fun _=>true) rfl (fun c u hr hc _=>R.of_closed (C:=C) (C':=bare C.w Φ C.G) (fun _ _ hf=>⟨hΦ _ _ hf,rfl⟩) (fun _ h=>h) hr hc) hR (okGiven_sh hok)
 exact ⟨RB1_shG h1 C.G,by rw [owns1_sh]; exact h2⟩
theorem give_live' {good:V->Bool} {c:V} (hok:okGood good (giveC st c)=true):∀ r∈objC c,(∃ s rs,st.heap r=.rows s rs)\/∃ ks vs,st.heap r=.mp ks vs:=by
 intro r hr
 cases c with
 |sref r' i k =>
  simp only [objC,List.mem_singleton] at hr
  subst hr
  cases i with
  |zero =>
   simp only [giveC] at hok
   cases hh:st.heap r with
   |rows s rs=>exact .inl ⟨s,rs,rfl⟩
   |_=>simp [hh,okGood,V.closed] at hok
  |succ i=>simp [giveC,okGood,V.closed] at hok
 |mp r' =>
  simp only [objC,List.mem_singleton] at hr
  subst hr
  simp only [giveC] at hok
  cases hh:st.heap r with
  |mp ks vs=>exact .inr ⟨ks,vs,rfl⟩
  |_=>simp [hh,okGood,V.closed] at hok
 |_=>simp [objC] at hr
theorem give_live {c:V} (hok:V.okGiven (giveC st c).sh=true):∀ r∈objC c,∃ s rs,st.heap r=.rows s rs:=by
 intro r hr
 cases c with
 |sref r' i k =>
  simp only [objC,List.mem_singleton] at hr
  subst hr
  cases i with
  |zero =>
   simp only [giveC] at hok
   cases hh:st.heap r with
   |rows s rs=>exact ⟨s,rs,rfl⟩
   |_=>simp [hh,V.sh,V.okGiven,V.closed] at hok
  |succ i=>simp [giveC,V.sh,V.okGiven,V.closed] at hok
 |mp r' =>
  simp only [giveC] at hok
  cases hh:st.heap r' <;> simp [hh,V.sh,V.okGiven,V.closed] at hok
 |_=>simp [objC] at hr
theorem ownsL_give:∀ (l:List V) (us:List Value) (f:V->V),l.length=us.length->(∀ (j:Nat) (c:V),l[j]?=some c->(owns1 (f c) (us.getD j undef)).Sublist ((objC c).filterMap (blkOf C))) ->
  (ownsL (l.map f) us).Sublist ((l.flatMap objC).filterMap (blkOf C))
 |[],[],_,_,_=>by simp [ownsL]
 |[],_::_,_,hl,_=>by simp at hl
 |_::_,[],_,hl,_=>by simp at hl
 |c::l,u::us,f,hl,hr=>by
  simp only [List.map_cons,ownsL,List.flatMap_cons,List.filterMap_append]
  refine List.Sublist.append (by simpa using hr 0 c rfl) (ownsL_give l us f (by simpa using hl) fun j c hj=>by simpa using hr (j+1) c (by simpa using hj))
theorem cellsAt_len (w:World) (b base k:Nat):(cellsAt w b base k).length=k:=by simp [cellsAt]
theorem cellsAt_get (w:World) (b base k j:Nat) (hj:j < k):(cellsAt w b base k).getD j undef=(w.cell? ⟨b,base+j,none⟩).getD undef:=by
 simp [cellsAt,List.getD,List.getElem?_map,List.getElem?_range hj]
structure Handed (C:Ctx) (st:St) (Φ:Nat->Nat->Prop) (p:Pm) (v:V) (u:Value):Prop where
 r:RA (bare C.w Φ C.G) v u
 owns:(ownsA C.w v u).Sublist ((p.gone st).filterMap (blkOf C))
 box:(boxA v u).Sublist ((p.box st).filterMap (blkOf C))
 cells:∀ b off,boxC v u b off->∃ x k r o L cs,p=.io x k/\x.ev st=.ptr r o/\st.heap r=.box cs/\o+k<=cs.length/\C.loc r=some L/\b=L.blk/\L.base+o<=off/\off < L.base+o+k
 live:∀ r∈p.gone st,∃ s rs,st.heap r=.rows s rs
 boxes:∀ r∈p.box st,∃ cs,st.heap r=.box cs
 io:∀ x k,p=.io x k->∃ r o L cs,x.ev st=.ptr r o/\st.heap r=.box cs/\o+k<=cs.length/\C.loc r=some L/\u=.pointer (some ⟨L.blk,L.base+o,none⟩)/\∃ cv,v=.io cv
theorem RA_other {v:V} {u:Value} (h:∀ cs,v≠.io cs):RA C v u=RB1 C v u:=by
 unfold RA; split <;> first|exact absurd rfl (h _)|rfl
theorem ownsA_other {w:World} {v:V} {u:Value} (h:∀ cs,v≠.io cs):ownsA w v u=owns1 v u:=by
 unfold ownsA; split <;> first|exact absurd rfl (h _)|rfl
theorem boxA_other {v:V} {u:Value} (h:∀ cs,v≠.io cs):boxA v u=[]:=by
 unfold boxA; split <;> first|exact absurd rfl (h _)|rfl
theorem boxC_other {v:V} {u:Value} {b off:Nat} (h:∀ cs,v≠.io cs):¬ boxC v u b off:=by
 unfold boxC; split <;> first|exact absurd rfl (h _)|exact fun h=>h
theorem owns1_other {v:V} {u:Value} (h:∀ s rows,v≠.own s rows) (h':∀ ks vs,v≠.ownm ks vs):owns1 v u=[]:=by
 unfold owns1; split <;> first|exact absurd rfl (h _ _)|exact absurd rfl (h' _ _)|rfl
theorem Inv.hand (h:Inv E n C st a) {Φ:Nat->Nat->Prop} (hΦ:∀ b off,C.F b off->Φ b off) {sr:St} {p:Pm} {u:Value} (hp:R C (p.x.ev st) u) (hok:p.ok sr st=true)
  (hro:∀ x,p=.ro x->((frz sr 4 (x.ev sr)).sh).closed=true->R (bare C.w Φ C.G) ((frz sr 4 (x.ev sr)).sh) u):Handed C st Φ p (p.val sr st) u:=by
 cases p with
 |ro x =>
  simp only [Pm.ok,Pm.val] at hok
  have hR:=hro x rfl hok
  have n1:∀ cs,(Pm.ro x).val sr st≠.io cs:=fun cs e=>by simp only [Pm.val] at e; rw [e] at hok; simp [V.closed] at hok
  have n2:∀ s rows,(Pm.ro x).val sr st≠.own s rows:=fun s rows e=>by simp only [Pm.val] at e; rw [e] at hok; simp [V.closed] at hok
  have n3:∀ ks vs,(Pm.ro x).val sr st≠.ownm ks vs:=fun s rows e=>by simp only [Pm.val] at e; rw [e] at hok; simp [V.closed] at hok
  exact ⟨by rw [RA_other n1,RB1_other n2 n3]; exact hR,by rw [ownsA_other n1,owns1_other n2 n3]; simp,by rw [boxA_other n1]; simp,fun b off hb=>absurd hb (boxC_other n1),fun r hr=>by simp [Pm.gone] at hr,fun r hr=>by simp [Pm.box] at hr,fun x k e=>by cases e⟩
 |mv x s =>
  have hR:R C (x.ev st) u:=hp
  have hown:∃ s rows,(giveC st (x.ev st)).sh=.own s rows:=by
   simp only [Pm.ok,Pm.val] at hok
   split at hok <;> first|exact ⟨_,_,by assumption⟩|simp_all
  obtain ⟨s',rows,ho⟩:=hown
  have hg:=give_sound h hΦ hR (by rw [ho]; rfl)
  have n1:∀ cs,(Pm.mv x s).val sr st≠.io cs:=fun cs e=>by simp only [Pm.val] at e; rw [ho] at e; cases e
  exact ⟨by rw [RA_other n1]; exact hg.r,by rw [ownsA_other n1]; exact hg.owns,by rw [boxA_other n1]; simp,fun b off hb=>absurd hb (boxC_other n1),give_live (by rw [ho]; rfl),fun r hr=>by simp [Pm.box] at hr,fun x k e=>by cases e⟩
 |io x k =>
  have hR:R C (x.ev st) u:=hp
  simp only [Pm.ok] at hok
  simp only [Pm.val] at hok ⊢
  cases hx:x.ev st with
  |ptr r o =>
   simp only [hx] at hok ⊢
   cases hh:st.heap r with
   |box cs =>
    simp only [hh] at hok ⊢
    by_cases hlen:o+k<=cs.length
    ·simp only [hlen,if_true] at hok ⊢
     rw [hx] at hR
     have hC:C.heap r=.box cs:=by rw [h.heap]; exact hh
     cases hR with
     |ptr _ _ cs' L q1 q2 =>
      rw [hC] at q1; cases q1
      have ho:=h.objs r
      unfold ObjOk at ho
      rw [hC] at ho
      obtain ⟨L',hl',⟨cur,e,g,g2,g3⟩,_⟩:=ho
      rw [q2] at hl'; cases hl'
      have hgive:∀ (j:Nat) (c:V),((cs.drop o).take k)[j]?=some c->j < k/\cur[L.base+o+j]?=some (g (o+j))/\(g (o+j)).oneCell'=true/\R C c (g (o+j))/\V.okGiven (giveC st c).sh=true:=fun j c hj=>by
       obtain ⟨h1,h2⟩:=getElem?_seg hj
       obtain ⟨a1,a2,a3⟩:=g3 _ c h1
       refine ⟨h2,by rw [Nat.add_assoc]; exact a1,a2,a3,?_⟩
       exact List.all_eq_true.1 hok _ (List.mem_map_of_mem (List.mem_of_getElem? hj))
      have hl:((cs.drop o).take k).length=k:=by simp; omega
      refine ⟨?_,?_,?_,?_,?_,?_,?_⟩
      ·refine ⟨L.blk,L.base+o,cur,e,fun j=>g (o+j),rfl,g2,fun j c hj=>?_⟩
       simp only [List.getElem?_map,Option.map_eq_some_iff] at hj
       obtain ⟨c',h1,rfl⟩:=hj
       obtain ⟨_,b1,b2,b3,b4⟩:=hgive j c' h1
       exact ⟨b1,b2,(give_sound h hΦ b3 b4).r⟩
      ·have eg:Pm.gone st (.io x k)=((cs.drop o).take k).flatMap objC:=by simp [Pm.gone,hx,hh]
       rw [eg]
       show (ownsL (((cs.drop o).take k).map fun c=>(giveC st c).sh) (cellsAt C.w L.blk (L.base+o) (((cs.drop o).take k).map fun c=>(giveC st c).sh).length)).Sublist _
       refine ownsL_give _ _ (fun c=>(giveC st c).sh) (by rw [List.length_map,cellsAt_len]) fun j c hj=>?_
       obtain ⟨b0,b1,b2,b3,b4⟩:=hgive j c hj
       rw [List.length_map,hl,cellsAt_get _ _ _ _ _ b0,cell_of_row _ _ _ _ _ _ g2,b1]
       exact (give_sound h (Φ:=C.F) (fun _ _ h=>h) b3 b4).owns
      ·have eb:Pm.box st (.io x k)=[r]:=by simp [Pm.box,hx]
       rw [eb]
       simp [boxA,blkOf_some q2]
      ·intro b off hb
       simp only [boxC,List.length_map,hl] at hb
       exact ⟨x,k,r,o,L,cs,rfl,hx,hh,hlen,q2,hb.1,hb.2.1,hb.2.2⟩
      ·intro r' hr'
       have eg:Pm.gone st (.io x k)=((cs.drop o).take k).flatMap objC:=by simp [Pm.gone,hx,hh]
       rw [eg,List.mem_flatMap] at hr'
       obtain ⟨c,hc,hr'⟩:=hr'
       obtain ⟨j,hj⟩:=List.getElem?_of_mem hc
       exact give_live (hgive j c hj).2.2.2.2 r' hr'
      ·intro r' hr'
       have eb:Pm.box st (.io x k)=[r]:=by simp [Pm.box,hx]
       rw [eb,List.mem_singleton] at hr'
       subst hr'
       exact ⟨cs,hh⟩
      ·intro x' k' e'
       cases e'
       exact ⟨r,o,L,cs,hx,hh,hlen,q2,rfl,_,rfl⟩
    ·simp [hlen] at hok
   |_=>simp [hh] at hok
  |_=>simp [hx] at hok
inductive HandedL (C:Ctx) (st:St) (Φ:Nat->Nat->Prop):List Pm->List V->List Value->Prop where
 |nil:HandedL C st Φ [] [] []
 |cons {p v u ps vs us} (h:Handed C st Φ p v u) (t:HandedL C st Φ ps vs us):HandedL C st Φ (p::ps) (v::vs) (u::us)
theorem Inv.handL (h:Inv E n C st a) {Φ:Nat->Nat->Prop} (hΦ:∀ b off,C.F b off->Φ b off) {sr:St}:∀ {args:List Pm} {us:List Value},args.length=us.length->(∀ (i:Nat) (p:Pm),args[i]?=some p->R C (p.x.ev st) (us.getD i undef))->args.all (·.ok sr st)=true ->
  (∀ (i:Nat) x,args[i]?=some (.ro x)->((frz sr 4 (x.ev sr)).sh).closed=true->R (bare C.w Φ C.G) ((frz sr 4 (x.ev sr)).sh) (us.getD i undef))->HandedL C st Φ args (args.map (·.val sr st)) us
 |[],[],_,_,_,_=>.nil
 |[],_::_,h1,_,_,_=>by simp at h1
 |_::_,[],h1,_,_,_=>by simp at h1
 |p :: ps,u::us,h1,h1',h2,h3=>by
  simp only [List.all_cons,Bool.and_eq_true] at h2
  exact .cons (h.hand hΦ (by simpa using h1' 0 p rfl) h2.1 fun x e hc=>by simpa using h3 0 x (by simp [e]) hc)
   (h.handL hΦ (by simpa using h1) (fun i p hp=>by simpa using h1' (i+1) p (by simpa using hp)) h2.2 fun i x hm hc=>by simpa using h3 (i+1) x (by simpa using hm) hc)
theorem HandedL.len {Φ:Nat->Nat->Prop} {ps:List Pm} {vs:List V} {us:List Value} (h:HandedL C st Φ ps vs us):vs.length=us.length/\ps.length=vs.length:=by
 induction h with
 |nil=>exact ⟨rfl,rfl⟩
 |cons _ _ ih=>simp [ih.1,ih.2]
theorem HandedL.get {Φ:Nat->Nat->Prop} {ps:List Pm} {vs:List V} {us:List Value} (h:HandedL C st Φ ps vs us):∀ (i:Nat) (v:V),vs[i]?=some v->RA (bare C.w Φ C.G) v (us.getD i undef):=by
 induction h with
 |nil=>intro i v hi; simp at hi
 |cons h _ ih =>
  intro i v hi
  cases i with
  |zero=>simp at hi; subst hi; simpa using h.r
  |succ i=>simpa using ih i v (by simpa using hi)
theorem HandedL.live {Φ:Nat->Nat->Prop} {ps:List Pm} {vs:List V} {us:List Value} (h:HandedL C st Φ ps vs us):(∀ r∈ps.flatMap (·.gone st),∃ s rs,st.heap r=.rows s rs)/\(∀ r∈ps.flatMap (·.box st),∃ cs,st.heap r=.box cs):=by
 induction h with
 |nil=>simp
 |cons h _ ih =>
  simp only [List.flatMap_cons,List.mem_append]
  exact ⟨fun r hr=>hr.elim (h.live r) (ih.1 r),fun r hr=>hr.elim (h.boxes r) (ih.2 r)⟩
theorem HandedL.io {Φ:Nat->Nat->Prop} {ps:List Pm} {vs:List V} {us:List Value} (h:HandedL C st Φ ps vs us):∀ (i:Nat) (x:X) (k:Nat),ps[i]?=some (.io x k) ->
  ∃ r o L cs,x.ev st=.ptr r o/\st.heap r=.box cs/\o+k<=cs.length/\C.loc r=some L/\us.getD i undef=.pointer (some ⟨L.blk,L.base+o,none⟩)/\∃ cv,vs[i]?=some (.io cv):=by
 induction h with
 |nil=>intro i x k hi; simp at hi
 |cons h _ ih =>
  intro i x k hi
  cases i with
  |zero =>
   simp only [List.getElem?_cons_zero,Option.some.injEq] at hi
   obtain ⟨r,o,L,cs,h1,h2,h3,h4,h5,cv,h6⟩:=h.io x k hi
   exact ⟨r,o,L,cs,h1,h2,h3,h4,by simpa using h5,cv,by simp [h6]⟩
  |succ i=>simpa using ih i x k (by simpa using hi)
theorem HandedL.owns {Φ:Nat->Nat->Prop} {ps:List Pm} {vs:List V} {us:List Value} (h:HandedL C st Φ ps vs us):(listA (ownsA C.w) vs us).Sublist ((ps.flatMap (·.gone st)).filterMap (blkOf C)):=by
 induction h with
 |nil=>simp [listA]
 |cons h _ ih=>simp only [listA,List.flatMap_cons,List.filterMap_append]; exact h.owns.append ih
theorem HandedL.box {Φ:Nat->Nat->Prop} {ps:List Pm} {vs:List V} {us:List Value} (h:HandedL C st Φ ps vs us):(listA boxA vs us).Sublist ((ps.flatMap (·.box st)).filterMap (blkOf C)):=by
 induction h with
 |nil=>simp [listA]
 |cons h _ ih=>simp only [listA,List.flatMap_cons,List.filterMap_append]; exact h.box.append ih
theorem HandedL.cells {Φ:Nat->Nat->Prop} {ps:List Pm} {vs:List V} {us:List Value} (h:HandedL C st Φ ps vs us) {b off:Nat}:anyC vs us b off->∃ x k r o L cs,.io x k∈ps/\x.ev st=.ptr r o/\st.heap r=.box cs/\o+k<=cs.length/\C.loc r=some L/\b=L.blk/\L.base+o<=off/\off < L.base+o+k:=by
 induction h with
 |nil=>intro h; exact absurd h (by simp [anyC])
 |cons h _ ih =>
  intro hc
  simp only [anyC] at hc
  rcases hc with hc|hc
  ·obtain ⟨x,k,r,o,L,cs,rfl,h2⟩:=h.cells b off hc
   exact ⟨x,k,r,o,L,cs,by simp,h2⟩
  ·obtain ⟨x,k,r,o,L,cs,h1,h2⟩:=ih hc
   exact ⟨x,k,r,o,L,cs,by simp [h1],h2⟩
end Go.Ab
