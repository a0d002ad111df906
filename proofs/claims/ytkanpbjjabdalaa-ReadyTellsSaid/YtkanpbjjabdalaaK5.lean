/-
  Regions: operations one behind the other.
  What is no cells, and no map that is written, may turn: the invariant stays. (For ranges over functions, and for what a function leaves to do at its end.)
  Control: a text does what the abstract machine says.
  How a function begins.
  How a function ends.
  What a function does, from what its text comes to.
  What a function does, from what its text comes to: the theorem.
  What a function does, from what its text comes to: the theorem.
  Regions in any order: what an operation looks at.
  Regions in any order: what reads alone, and makes.
-/
import Derived.RangeFuncBox
import Derived.RangeFuncLeaves
import Derived.RangeFuncNested
import Derived.RangeFuncCalls
import Derived.OrdersIn
import Derived.Below
import Derived.Test.YtkanpbjjabdalaaK4
set_option linter.all false
namespace Go.Ab
open Go
variable {E:Ent} {n:Sz} {C:Ctx} {st:St} {a:Act} {P:Program}
theorem snd:∀ q:O,Snd P q
 |.mv _=>snd_mv
 |.pick _ _ _=>snd_pick
 |.box _ _=>snd_box
 |.alloc _ _ _=>snd_alloc
 |.nil _ _=>snd_nil
 |.build _ _=>snd_build
 |.bsl _ _ _=>snd_bsl
 |.load _ _ _=>snd_load
 |.store _ _ _=>snd_store
 |.faddr _ _=>snd_faddr
 |.iaddr _ _ _ _=>snd_iaddr
 |.field _ _ _ _=>snd_field
 |.index _ _ _ _ _=>snd_index
 |.sidx _ _=>snd_sidx
 |.ext _ _=>snd_ext
 |.bin _ _ _=>snd_bin
 |.eqs _ _ _=>snd_eqs
 |.eqb _ _ _=>snd_eqb
 |.eqa _ _ _ _=>snd_eqa
 |.not _=>snd_not
 |.neg _=>snd_neg
 |.len _=>snd_len
 |.slen _=>snd_slen
 |.app _ _ _ _ _=>snd_app
 |.slice _ _ _ _=>snd_slice
 |.sslice _ _ _=>snd_sslice
 |.mks _ _ _ _ _=>snd_mks
 |.mkf _ _ _=>snd_mkf
 |.max _ _=>snd_max
 |.min _ _=>snd_min
 |.call _ _ _=>snd_call
 |.calln _ _ _=>snd_calln
 |.callp _ _ _=>snd_callp
 |.cut _ _ _ _=>snd_cut
 |.nilchk _=>snd_nilchk
 |.loadb _ _=>snd_loadb
 |.niltest _ _=>snd_niltest
 |.mkm _=>snd_mkm
 |.mget _ _ _ _=>snd_mget
 |.mlen _=>snd_mlen
 |.mset _ _ _ _=>snd_mset
 |.mput _ _ _ _ _=>snd_mput
 |.clr _ _ _=>snd_clr
theorem put_self {st:St} {t:Nat} {v:V} (h:st.env t=v):st.put (some t) v=st:=by
 cases st with
 |mk env heap =>
  simp only [St.put,St.mk.injEq,and_true]
  funext i
  simp only [upd]
  split
  ·rename_i e; subst e; exact h.symm
  ·rfl
theorem guard_spec (h:Inv E n C st a) {ops:Array Oper} {g:Option (Nat×Bool)} {p:Oper} (hg:okGuard ops n g p.guard=true) {t:Nat} {w b:Bool} (e:g=some (t,w)) (hb:st.env t=.bool b) :
  Region.wanted p (yielded ops a.tmps)=(b == w):=by
 subst e
 cases hgd:p.guard with
 |none=>rw [hgd] at hg; simp [okGuard] at hg
 |some x =>
  obtain ⟨j,w2⟩:=x
  rw [hgd] at hg
  simp only [okGuard,Bool.and_eq_true,beq_iff_eq,decide_eq_true_eq] at hg
  obtain ⟨⟨rfl,hlt⟩,hj⟩:=hg
  have hR:=h.env t
  rw [hb] at hR
  have hu:=R_bool hR
  have hy:yielded ops a.tmps j=some b:=by
   unfold yielded
   cases hoj:ops[j]? with
   |none=>rw [hoj] at hj; cases hj
   |some oj =>
    rw [hoj] at hj
    simp only [beq_iff_eq] at hj
    have hs:t < a.tmps.size:=by rw [h.size]; exact hlt
    have:a.tmps[t]?=some (.bool b):=by
     rw [Array.getD_eq_getD_getElem?] at hu
     cases hq:a.tmps[t]? with
     |none=>simp at hq; omega
     |some u=>rw [hq] at hu; simp at hu; rw [hu]
    simp [hj,this]
  unfold Region.wanted
  rw [hgd]
  simp [hy]
theorem R_skip {C:Ctx}:R C (.tup []) undef:=.tup [] [] rfl (fun j c hj=>by simp at hj)
theorem guard_skip (h:Inv E n C st a) {ops:Array Oper} {g:Option (Nat×Bool)} {p:Oper} (hg:okGuard ops n g p.guard=true) {t:Nat} {w:Bool} (e:g=some (t,w)) (hb:st.env t=.tup []) :
  Region.wanted p (yielded ops a.tmps)=false:=by
 subst e
 cases hgd:p.guard with
 |none=>rw [hgd] at hg; simp [okGuard] at hg
 |some x =>
  obtain ⟨j,w2⟩:=x
  rw [hgd] at hg
  simp only [okGuard,Bool.and_eq_true,beq_iff_eq,decide_eq_true_eq] at hg
  obtain ⟨⟨rfl,hlt⟩,hj⟩:=hg
  have hR:=h.env t
  rw [hb] at hR
  generalize hu:a.tmps.getD t undef=u at hR
  have hy:yielded ops a.tmps j=none:=by
   unfold yielded
   cases hoj:ops[j]? with
   |none=>rw [hoj] at hj; cases hj
   |some oj =>
    rw [hoj] at hj
    simp only [beq_iff_eq] at hj
    have hs:t < a.tmps.size:=by rw [h.size]; exact hlt
    have:a.tmps[t]?=some u:=by
     rw [Array.getD_eq_getD_getElem?] at hu
     cases hq:a.tmps[t]? with
     |none=>simp at hq; omega
     |some u'=>rw [hq] at hu; simp at hu; rw [hu]
    cases hR with
    |tup _ us hl hr=>simp [hj,this]
  unfold Region.wanted
  rw [hgd]
  simp [hy]
theorem wanted_none {ops:Array Oper} {p:Oper} (hg:okGuard ops n none p.guard=true) (y:Nat->Option Bool):Region.wanted p y=true:=by
 cases hgd:p.guard with
 |none=>unfold Region.wanted; rw [hgd]
 |some x=>rw [hgd] at hg; simp [okGuard] at hg
theorem effG_sound1 (h:Inv E n C st a) {ops:Array Oper} {o:Op'} {p:Oper} {K:St->Prop} {next:Act->World->Prop} {Q:Exit->Act->World->Prop} (hok:okOper P ops n o p=true)
  (hk:effG P o st K) (hn:∀ C' st' a',Inv E n C' st' a'->K st'->next a' C'.w):if Region.wanted p (yielded ops a.tmps) then p.wp P a C.w next Q else next (a.put p.dst undef) C.w:=by
 simp only [okOper,Bool.and_eq_true] at hok
 obtain ⟨⟨⟨hd,hop⟩,hg⟩,hmf⟩:=hok
 replace hmf:n.nomap=true->o.op.mapFree=true:=fun e=>by simpa [e] using hmf
 unfold effG at hk
 split at hk
 ·rename_i e
  rw [e] at hg
  rw [wanted_none hg,if_pos rfl]
  exact snd o.op h hop hd hk hn hmf
 ·rename_i t w e
  split at hk
  ·rename_i b hb
   rw [guard_spec h hg e hb]
   by_cases hbw:b=w
   ·subst hbw
    have h1:=hk.1 rfl
    rw [put_self hb] at h1
    simp only [beq_self_eq_true,if_true]
    exact snd o.op h hop hd h1 hn hmf
   ·have hnb:b=!w:=by cases b <;> cases w <;> simp_all
    have h1:=hk.2 hnb
    rw [put_self (by rw [hb,hnb])] at h1
    have:(b == w)=false:=by simp [hbw]
    rw [this]
    simp only [Bool.false_eq_true,if_false]
    exact hn C _ _ (h.put hd R_skip) h1
  ·rename_i hb
   rw [guard_skip h hg e hb]
   simp only [Bool.false_eq_true,if_false]
   exact hn C _ _ (h.put hd R_skip) hk
  ·exact hk.elim
theorem effG_sound (h:Inv E n C st a) {ops:Array Oper} {i:Nat} {o:Op'} {p:Oper} {K:St->Prop} {next:Act->World->Prop} {Q:Exit->Act->World->Prop} (ho:ops[i]?=some p) (hok:okOper P ops n o p=true)
  (hk:effG P o st K) (hn:∀ C' st' a',Inv E n C' st' a'->K st'->next a' C'.w):wpOp P ops Q i next a C.w:=by
 have:=effG_sound1 (Q:=Q) h hok hk hn
 unfold wpOp
 simp only [ho]
 split
 ·rename_i hw; rw [if_pos hw] at this; exact .inl this
 ·rename_i hw; rw [if_neg hw] at this; exact this
theorem ops_sound {ops:Array Oper} {Q:Exit->Act->World->Prop} {K:St->Prop} (hn:∀ C' st' a',Inv E n C' st' a'->K st'->Q .normal a' C'.w) :
  ∀ (l:List Op') (k:Nat) {C:Ctx} {st:St} {a:Act},okOpers P ops n l (ops.toList.drop k)=true->Inv E n C st a->wpOps P l st K->Go.wpOps P ops Q (List.range' k l.length) a C.w
 |[],k,C,st,a,_,h,hk=>hn C st a h hk
 |o :: l,k,C,st,a,hok,h,hk=>by
  cases hp:ops.toList.drop k with
  |nil=>rw [hp] at hok; simp [okOpers] at hok
  |cons p ps =>
   rw [hp] at hok
   simp only [okOpers,Bool.and_eq_true] at hok
   have hpk:ops[k]?=some p:=by
    have:(ops.toList.drop k)[0]?=some p:=by rw [hp]; rfl
    simpa using this
   have hps:ops.toList.drop (k+1)=ps:=by
    rw [<- List.drop_drop,hp]; rfl
   simp only [List.length_cons,List.range'_succ]
   rw [wpOps_cons]
   refine effG_sound h hpk hok.1 hk fun C' st' a' h' hk'=>?_
   exact ops_sound hn l (k+1) (by rw [hps]; exact hok.2) h' hk'
theorem okOpers_len {ops:Array Oper}:∀ {l:List Op'} {m:List Oper},okOpers P ops n l m=true->l.length=m.length
 |[],[],_=>rfl
 |[],_::_,h=>by simp [okOpers] at h
 |_::_,[],h=>by simp [okOpers] at h
 |o::l,p::m,h=>by
  simp only [okOpers,Bool.and_eq_true] at h
  simp [okOpers_len h.2]
theorem region_sound {ops:Array Oper} {id:Nat} {Q:Exit->Act->World->Prop} {K:St->Prop} (hn:∀ C' st' a',Inv E n C' st' a'->K st'->Q .normal a' C'.w) {l:List Op'}
  (hok:okOpers P ops n l ops.toList=true) (h:Inv E n C st a) (hk:wpOps P l st K):(Code.region id ops false).wp P Q a C.w:=by
 have hl:l.length=ops.size:=by simpa using okOpers_len hok
 refine wp_region ?_
 rw [List.range_eq_range',<- hl]
 exact ops_sound hn l 0 (by simpa using hok) h hk
end Go.Ab

namespace Go.Ab
open Go
variable {E:Ent} {n:Sz} {C:Ctx} {st:St} {a:Act} {P:Program}
theorem R.thin {C C':Ctx} (hF:∀ b off x,C.F b off->C.w.cell? ⟨b,off,none⟩=some x->C'.F b off/\C'.w.cell? ⟨b,off,none⟩=some x) (hG:∀ b,C.G b->C'.G b) (hh:C'.heap=C.heap) (hlo:C'.loc=C.loc)
  {v:V} {u:Value} (h:R C v u):R C' v u:=by
 induction h with
 |undef u=>exact .undef u
 |bool b=>exact .bool b
 |int k n=>exact .int k n
 |str s=>exact .str s
 |nilp=>exact .nilp
 |nilf=>exact .nilf
 |ptr r off cs L h hl=>exact .ptr r off cs L (by rw [hh]; exact h) (by rw [hlo]; exact hl)
 |rptr r i off s rs L h hl hi=>exact .rptr r i off s rs L (by rw [hh]; exact h) (by rw [hlo]; exact hl) hi
 |sref r i n s rs L h hl hi=>exact .sref r i n s rs L (by rw [hh]; exact h) (by rw [hlo]; exact hl) hi
 |srefNil r s h hl=>exact .srefNil r s (by rw [hh]; exact h) (by rw [hlo]; exact hl)
 |srefZ r i s rs b off h hi=>exact .srefZ r i s rs b off (by rw [hh]; exact h) hi
 |mp r ks vs L h hl=>exact .mp r ks vs L (by rw [hh]; exact h) (by rw [hlo]; exact hl)
 |nils s=>exact .nils s
 |nilsSome s b off=>exact .nilsSome s b off
 |slNil fr s=>exact .slNil fr s
 |slZ fr s a=>exact .slZ fr s a
 |sl fr s rows b base cap g hc1 hm hu hfr hcell hcl hr ih =>
  refine .sl fr s rows b base cap g hc1 hm hu (fun h1 h2=>hG _ (hfr h1 h2)) (fun i j c hij=>?_) hcl (fun i j c hij=>ih i j c hij)
  obtain ⟨h1,h2,h3⟩:=hcell i j c hij
  obtain ⟨h4,h5⟩:=hF _ _ _ h2 h1
  exact ⟨h5,h4,h3⟩
 |cp cs off b base g hcell hcl hr ih =>
  refine .cp cs off b base g (fun j c hj=>?_) hcl (fun j c hj=>ih j c hj)
  obtain ⟨h1,h2,h3⟩:=hcell j c hj
  obtain ⟨h4,h5⟩:=hF _ _ _ h2 h1
  exact ⟨h5,h4,h3⟩
 |agg cs us hl h1 hr ih=>exact .agg cs us hl h1 fun j c hj=>ih j c hj
 |tup vs us hl hr ih=>exact .tup vs us hl fun j c hj=>ih j c hj
 |fn f first caps us ws hl hl' hr hr' ih ih'=>exact .fn f first caps us ws hl hl' (fun j c hj=>ih j c hj) (fun j c hj=>ih' j c hj)
def Ctx.odd (C:Ctx) (Y:World):Ctx:={ C with w:=Y,F:=fun b off=>C.F b off/\(C.w.cell? ⟨b,off,none⟩).isSome=true }
theorem cell_block {w:World} {b off:Nat} {x:Value} (h:w.cell? ⟨b,off,none⟩=some x):∃ c e fr,w.heap[b]?=some (.cells c e fr):=by
 unfold World.cell? at h
 cases hb:w.heap[b]? with
 |none=>simp [hb] at h
 |some o =>
  cases o with
  |cells c e fr=>exact ⟨c,e,fr,rfl⟩
  |_=>simp [hb] at h
theorem cell_of_cells {w:World} {b off:Nat} {c:Array Value} {e:TypeId} {fr:Nat×Nat} {x:Value} (h:w.heap[b]?=some (.cells c e fr)) (hx:c[off]?=some x):w.cell? ⟨b,off,none⟩=some x:=by
 unfold World.cell?
 simp [h,hx]
theorem Inv.odd (h:Inv E n C st a) {Y:World} {row:Option Nat} (hg:C.w.grownBy Y row) (hrow:∀ r,row=some r->∃ o:Obj,C.w.heap[r]?=some o/\o.isCells=false)
  (hmap:∀ r,row=some r->∀ es clk,C.w.heap[r]?=some (.map es clk)->¬ E.Mb r) (hw0:∀ r,row=some r->E.w0.heap.size<=r) {ds:List Deferred} (hds:ds.Sublist a.defers)
  (hmk:∀ r,row=some r->{ target:=.collected r,args:=#[] }∉ds) (hst:∀ r,row=some r->∀ o,KeepO E r o->E.wk.heap[r]?≠some o) :
  Inv E n (C.odd Y) st { a with defers:=ds }:=by
 have hb:∀ (b:Nat) c e fr,C.w.heap[b]?=some (.cells c e fr)->Y.heap[b]?=C.w.heap[b]?:=fun b c e fr hc =>
  hg.block b (block_lt hc) fun e'=>by
   obtain ⟨o,h1,h2⟩:=hrow b e'.symm
   rw [hc] at h1; cases h1; cases h2
 have hm:∀ (b:Nat) es clk,C.w.heap[b]?=some (.map es clk)->E.Mb b->Y.heap[b]?=C.w.heap[b]?:=fun b es clk hc hMb =>
  hg.block b (block_lt hc) fun e'=>hmap b e'.symm es clk hc hMb
 have hcell:∀ b off x,C.w.cell? ⟨b,off,none⟩=some x->Y.cell? ⟨b,off,none⟩=some x:=fun b off x hx=>by
  obtain ⟨c,e,fr,hc⟩:=cell_block hx
  rw [<- hx]
  exact World.cell?_of_block (a:=⟨b,off,none⟩) (hb b c e fr hc)
 have hR:∀ {v:V} {u:Value},R C v u->R (C.odd Y) v u:=fun hv =>
  R.thin (C':=C.odd Y) (fun b off x hf hx=>⟨⟨hf,by rw [hx]; rfl⟩,hcell b off x hx⟩) (fun _ h=>h) rfl rfl hv
 exact {
   heap := h.heap,env:=fun t=>hR (h.env t)
   objs := fun r=>by
    have ho:=h.objs r
    unfold ObjOk at ho ⊢
    show match C.heap r with|.dead=>True|.box cs=>∃ L,C.loc r=some L/\BoxOk E (C.odd Y) L cs|.rows s rs=>(rs=[]/\C.loc r=none)\/∃ L,C.loc r=some L/\RowsOk E (C.odd Y) L s rs|.mp ks vs=>∃ L,C.loc r=some L/\MapOk E (C.odd Y) r L ks vs
    cases hh:C.heap r with
    |dead=>trivial
    |box cs =>
     rw [hh] at ho
     obtain ⟨L,hl,⟨cur,e,g,h1,h2⟩,h3,h4⟩:=ho
     refine ⟨L,hl,⟨cur,e,g,(hb _ _ _ _ h1).trans h1,fun j c hj=>?_⟩,fun j hj=>⟨fun hf=>(h3 j hj).1 hf.1,(h3 j hj).2⟩,h4.imp (fun h off hf=>h off hf.1) id⟩
     obtain ⟨a1,a2,a3⟩:=h2 j c hj
     exact ⟨a1,a2,hR a3⟩
    |rows s rs =>
     rw [hh] at ho
     rcases ho with ho|⟨L,hl,h0,h1,h2,h3,⟨cur,e,g,h4,h5,h6⟩,h7,h8⟩
     ·exact .inl ho
     ·refine .inr ⟨L,hl,h0,h1,h2,h3,⟨cur,e,g,(hb _ _ _ _ h4).trans h4,h5,fun i j c hij=>?_⟩,fun off=>⟨fun hf=>(h7 off).1 hf.1,(h7 off).2⟩,h8⟩
      obtain ⟨a1,a2,a3,a4⟩:=h6 i j c hij
      exact ⟨a1,a2,a3,hR a4⟩
    |mp ks vs =>
     rw [hh] at ho
     obtain ⟨L,hl,⟨clock,ents,h1,h2,h3,h4,h5⟩,h6,h7,h8⟩:=ho
     refine ⟨L,hl,⟨clock,ents,(hm _ _ _ h1 h8).trans h1,h2,h3,fun j k hj=>?_,fun j v hj=>?_⟩,h6,fun off hf=>h7 off hf.1,h8⟩
     ·obtain ⟨a1,e,a2,a3⟩:=h4 j k hj
      exact ⟨a1,e,a2,hR a3⟩
     ·obtain ⟨e,a2,a3⟩:=h5 j v hj
      refine ⟨e,a2,?_⟩
      by_cases hv:∃ s rows,v=.own s rows
      ·obtain ⟨s,rows,rfl⟩:=hv
       obtain ⟨b,cap,cur,e,g,q1,q2,q3,q4,q5,q6,q7,q8,q9,q10,q11,q12,q13⟩:=a3
       refine ⟨b,cap,cur,e,g,q1,q2,q3,q4,q5,q6,(hb _ _ _ _ q7).trans q7,q8,fun i j c hij=>?_,q10,q11,q12,fun off ho hf=>q13 off ho hf.1⟩
       obtain ⟨p1,p2,p3,p4,p5⟩:=q9 i j c hij
       exact ⟨p1,p2,⟨p3,by rw [cell_of_cells q7 p1]; rfl⟩,p4,hR p5⟩
      ·have hne:∀ s rows,v≠.own s rows:=fun s rows e=>hv ⟨s,rows,e⟩
       rw [EntOk.other hne] at a3 ⊢
       exact ⟨a3.1,hR a3.2⟩
   inj:=h.inj
   fin:=fun b off hf=>Nat.lt_of_lt_of_le (h.fin b off hf.1) hg.size
   gnew:=h.gnew
   frame:=⟨hg.os.trans h.frame.os,hg.output.trans h.frame.output,hg.tape.trans h.frame.tape,Nat.le_trans h.frame.size hg.size,fun b hb'=>by
    show sameBut _ _ (Y.heap[b]?)
    rw [hg.block b (Nat.lt_of_lt_of_le hb' h.frame.size) fun e=>by have:=hw0 b e.symm; omega]
    exact h.frame.same b hb'⟩
   marks:=fun d hd=>by
    obtain ⟨D,h1,h2,h3⟩:=h.marks d (hds.subset hd)
    refine ⟨D,h1,(hg.block D (block_lt h2) fun e=>hmk D e.symm (h1 ▸ hd)).trans h2,h3⟩
   mnd:=hds.nodup h.mnd
   fkeep:=fun b off hf=>by
    obtain ⟨h1,h2⟩:=h.fkeep b off hf
    have h3:=E.fk b off hf
    cases hx:C.w.cell? ⟨b,off,none⟩ with
    |none=>rw [<- h2,hx] at h3; cases h3
    |some x=>exact ⟨⟨h1,by rw [hx]; rfl⟩,by rw [<- h2,hx]; exact hcell b off x hx⟩
   stay:=fun b o ho hb'=>(hg.block b (block_lt (h.stay b o ho hb')) fun e=>hst b e.symm o ho hb').trans (h.stay b o ho hb')
   mball:=h.mball,wsz:=Nat.le_trans h.wsz hg.size,size:=h.size,par:=h.par
   fnew:=fun b off hf=>h.fnew b off hf.1
   gsub:=h.gsub }
theorem tab_map {α:Type} (z:α) (f:Nat->α) (l:List Nat) (i:Nat):tab z (l.map fun k=>(k,f k)) i=if i∈l then f i else z:=by
 induction l with
 |nil=>simp [tab]
 |cons k l ih =>
  simp only [List.map_cons,tab]
  by_cases h:i=k
  ·subst h; simp
  ·simp [h,ih]
theorem Inv.forget (h:Inv E n C st a) {st':St} (he:∀ t,st'.env t=st.env t\/st'.env t=.undef) (hh:st'.heap=st.heap):Inv E n C st' a :=
 {
  heap:=by rw [hh]; exact h.heap
  env:=fun t=>by
   rcases he t with e|e
   ·rw [e]; exact h.env t
   ·rw [e]; exact .undef _
  objs:=h.objs,inj:=h.inj,fin:=h.fin,gnew:=h.gnew,gsub:=h.gsub,par:=h.par,fnew:=h.fnew,frame:=h.frame,marks:=h.marks,mnd:=h.mnd,fkeep:=h.fkeep,stay:=h.stay,wsz:=h.wsz,mball:=h.mball,size:=h.size }
theorem Inv.keep (h:Inv E n C st a) (keep objs':List Nat):∃ C',Inv E n C' (st.keep keep objs') a/\C'.w=C.w/\C'.F=C.F:=by
 unfold St.keep
 generalize st.objsK keep objs'=objs
 refine ⟨_,(h.killP fun r=>!inl objs r).forget (st':=st.keepL keep objs) (fun t=>?_) ?_,rfl,rfl⟩
 ·simp only [St.keepL,St.killP]
  rw [tab_map .undef (fun t=>(st.env t).kill fun r=>!inl objs r)]
  split
  ·exact .inl rfl
  ·exact .inr rfl
 ·funext r
  simp only [St.keepL,St.killP]
  rw [tab_map .dead (fun r=>(st.heap r).kill fun r=>!inl objs r)]
  by_cases hr:r∈objs
  ·have:inl objs r=true:=inl_iff.2 hr
   simp [hr,this]
  ·have:inl objs r=false:=by rw [<- Bool.not_eq_true,inl_iff]; exact hr
   simp [hr,this]
theorem okOp_defer {q:O} {c:Call} (h:okOp P q (.defer c)=true):False:=by cases q <;> simp [okOp] at h
theorem wp_in {l m:Nat} {o:Oper} {w:World} {next:Act->World->Prop} {Q:Exit->Act->World->Prop} (hnd:∀ c,o.op≠.defer c) (h:o.wp P a w next Q):o.wpIn (Fence.wide.inRound l) m P a w next Q:=by
 refine ⟨fun _ _=>trivial,?_⟩
 rw [Oper.semAt_eq _ _ _ hnd]
 unfold Oper.wp at h
 generalize (execOp a.eval o).run P w=r at h ⊢
 cases r with
 |halt e w'=>cases e <;> first|exact h|exact h.elim
 |ok nx w' =>
  cases nx with
  |value v=>exact h
  |skip=>exact h
  |defer d=>exact h
  |enter f args=>exact ⟨fun e=>by simp [Fence.wide] at e,CallsIn.inRound l (callsIn_wide.2 h)⟩
  |row r args=>exact ⟨fun e=>by simp [Fence.wide] at e,fun c cs _=>let ⟨v,w',r,s⟩:=h c cs; ⟨v,w',r,stepsIn_wide.2 s⟩⟩
  |_=>exact h.elim
theorem opsR_sound {l m:Nat} {ops:Array Oper} {Q:Exit->Act->World->Prop} {K:St->Prop} (hn:∀ C' st' a',Inv E n C' st' a'->K st'->Q .normal a' C'.w) :
  ∀ (os:List Op') (k:Nat) {C:Ctx} {st:St} {a:Act},okOpers P ops n os (ops.toList.drop k)=true->Inv E n C st a->wpOps P os st K->wpOpsIn (Fence.wide.inRound l) m P ops Q (List.range' k os.length) a C.w
 |[],k,C,st,a,_,h,hk=>hn C st a h hk
 |o :: os,k,C,st,a,hok,h,hk=>by
  cases hp:ops.toList.drop k with
  |nil=>rw [hp] at hok; simp [okOpers] at hok
  |cons p ps =>
   rw [hp] at hok
   simp only [okOpers,Bool.and_eq_true] at hok
   have hpk:ops[k]?=some p:=by
    have:(ops.toList.drop k)[0]?=some p:=by rw [hp]; rfl
    simpa using this
   have hps:ops.toList.drop (k+1)=ps:=by
    rw [<- List.drop_drop,hp]; rfl
   simp only [List.length_cons,List.range'_succ]
   show wpOpsIn _ _ _ _ _ (k::_) _ _
   rw [Go.wpOpsIn_cons]
   have h1:=effG_sound1 (Q:=Q) h hok.1 hk fun C' st' a' h' hk'=>opsR_sound (l:=l) (m:=m) hn os (k+1) (by rw [hps]; exact hok.2) h' hk'
   unfold wpOpIn
   simp only [hpk]
   have hnd:∀ c,p.op≠.defer c:=fun c e=>by
    have:=hok.1
    simp only [okOper,Bool.and_eq_true] at this
    rw [e] at this
    exact okOp_defer this.1.1.2
   split
   ·rename_i hw; rw [if_pos hw] at h1; exact wp_in hnd h1
   ·rename_i hw; rw [if_neg hw] at h1; exact ⟨fun _ _=>trivial,h1⟩
def Ex.to:Ex->Exit
 |.normal=>.normal
 |.exit id=>.exit id
 |.ret=>.ret
theorem flat_sound {l m:Nat}:∀ (c:Go.Ab.C) (code:Code),c.flat=true->okC P n c code=true->∀ {C:Ctx} {st:St} {a:Act} {Q:Ex->St->Prop} {Q':Exit->Act->World->Prop},Inv E n C st a->wpC P c st Q ->
  (∀ e C' st' a',Inv E n C' st' a'->Q e st'->Q' e.to a' C'.w)->code.wpIn (Fence.wide.inRound l) m P Q' a C.w
 |.skip,code,_,hok,C,st,a,Q,Q',h,hk,hq=>by
  cases code <;> simp [okC] at hok
  exact wpIn_skip (hq .normal C st a h hk)
 |.ret,code,hf,_,_,_,_,_,_,_,_,_=>by simp [Go.Ab.C.flat] at hf
 |.exit i,code,_,hok,C,st,a,Q,Q',h,hk,hq=>by
  cases code <;> simp [okC] at hok
  subst hok
  exact wpIn_exit (hq (.exit _) C st a h hk)
 |.reg names ops,code,_,hok,C,st,a,Q,Q',h,hk,hq=>by
  cases code <;> simp only [okC,Bool.and_eq_true,Bool.not_eq_true',Bool.false_eq_true] at hok
  obtain ⟨hok,rfl⟩:=hok
  obtain ⟨C1,h1,w1,_⟩:=h.kills names
  rw [<- w1]
  have hl:=okOpers_len hok
  refine wpIn_region ?_
  rw [List.range_eq_range',<- Array.length_toList,<- hl]
  exact opsR_sound (fun C' st' a' h' hk'=>hq .normal C' st' a' h' hk') ops 0 (by simpa using hok) h1 hk
 |.regd names ops,code,hf,_,_,_,_,_,_,_,_,_=>by simp [Go.Ab.C.flat] at hf
 |.seq x y,code,hf,hok,C,st,a,Q,Q',h,hk,hq=>by
  cases code <;> simp only [okC,Bool.and_eq_true,Bool.false_eq_true] at hok
  simp only [Go.Ab.C.flat,Bool.and_eq_true] at hf
  refine wpIn_seq (flat_sound x _ hf.1 hok.1 h hk fun e C' st' a' h' hk'=>?_)
  cases e with
  |normal=>exact flat_sound y _ hf.2 hok.2 h' hk' hq
  |exit i=>exact hq (.exit i) C' st' a' h' hk'
  |ret=>exact hq .ret C' st' a' h' hk'
 |.cond x b c,code,hf,hok,C,st,a,Q,Q',h,hk,hq=>by
  cases code <;> simp only [okC,Bool.and_eq_true,Bool.false_eq_true] at hok
  simp only [Go.Ab.C.flat,Bool.and_eq_true] at hf
  obtain ⟨⟨hx,hb⟩,hc⟩:=hok
  simp only [wpC] at hk
  have hX:=h.ev hx
  split at hk
  ·rename_i t ht
   rw [ht] at hX
   exact wpIn_cond_split (R_bool hX) (fun e=>flat_sound b _ hf.1 hb h (hk.1 e) hq) (fun e=>flat_sound c _ hf.2 hc h (hk.2 e) hq)
  ·exact hk.elim
 |.blk i b,code,hf,hok,C,st,a,Q,Q',h,hk,hq=>by
  cases code <;> simp only [okC,Bool.and_eq_true,beq_iff_eq,Bool.false_eq_true] at hok
  simp only [Go.Ab.C.flat] at hf
  obtain ⟨rfl,hb⟩:=hok
  refine wpIn_block (flat_sound b _ hf hb h hk fun e C' st' a' h' hk'=>?_)
  cases e with
  |normal=>exact hq .normal C' st' a' h' hk'
  |exit j =>
   simp only [Ex.to,Exit.inBlock]
   simp only at hk'
   split
   ·rename_i e; rw [if_pos e] at hk'; exact hq .normal C' st' a' h' hk'
   ·rename_i e; rw [if_neg e] at hk'; exact hq (.exit j) C' st' a' h' hk'
  |ret=>exact hq .ret C' st' a' h' hk'
 |.fgt stop keep objs b,code,hf,hok,C,st,a,Q,Q',h,hk,hq=>by
  have hok':okC P n b code=true:=by cases code <;> simpa only [okC] using hok
  simp only [Go.Ab.C.flat] at hf
  refine flat_sound b code hf hok' h hk fun e C' st' a' h' hk'=>?_
  cases e with
  |normal =>
   obtain ⟨C1,h1,w1,_⟩:=h'.keep keep objs
   rw [<- w1]
   exact hq .normal C1 _ a' h1 hk'
  |exit i=>exact hq (.exit i) C' st' a' h' hk'
  |ret=>exact hq .ret C' st' a' h' hk'
 |.loop _ _ _,code,hf,_,_,_,_,_,_,_,_,_=>by simp [Go.Ab.C.flat] at hf
 |.rng _ _ _ _ _ _,code,hf,_,_,_,_,_,_,_,_,_=>by simp [Go.Ab.C.flat] at hf
def moveActs (a:Act):List (Nat×Nat)->Act
 |[]=>a
 |(d,s)::l=>moveActs (a.put (some d) (a.tmps.getD s undef)) l
theorem mvs_run {F:Fence} {m:Nat} {ops:Array Oper} {Q:Exit->Act->World->Prop} {w:World} (hF:∀ f,F.fn f):∀ (mvs:List (Nat×Nat)) (k:Nat) (a:Act),okMvs n mvs (ops.toList.drop k)=true->Q .normal (moveActs a mvs) w ->
  wpOpsIn F m P ops Q (List.range' k mvs.length) a w
 |[],k,a,_,h=>h
 |(d, s)::mvs,k,a,hok,h=>by
  cases hp:ops.toList.drop k with
  |nil=>rw [hp] at hok; simp [okMvs] at hok
  |cons p ps =>
   rw [hp] at hok
   simp only [okMvs,Bool.and_eq_true,beq_iff_eq,Option.isNone_iff_eq_none] at hok
   obtain ⟨⟨⟨⟨⟨h1,h2⟩,_⟩,_⟩,h5⟩,h6⟩:=hok
   have hpk:ops[k]?=some p:=by
    have:(ops.toList.drop k)[0]?=some p:=by rw [hp]; rfl
    simpa using this
   have hps:ops.toList.drop (k+1)=ps:=by
    rw [<- List.drop_drop,hp]; rfl
   simp only [List.length_cons,List.range'_succ]
   rw [Go.wpOpsIn_cons]
   unfold wpOpIn
   simp only [hpk]
   have hw:Region.wanted p (yielded ops a.tmps)=true:=by unfold Region.wanted; rw [h5]
   rw [if_pos hw]
   refine ⟨fun f _=>hF f,?_⟩
   have hx:∃ t,(p.op=.assign (.tmp t)\/p.op=.move (.tmp t))/\t=s:=by
    split at h1
    ·rename_i t e; exact ⟨t,.inl e,by simpa using h1⟩
    ·rename_i t e; exact ⟨t,.inr e,by simpa using h1⟩
    ·cases h1
   obtain ⟨t,ht,rfl⟩:=hx
   have hrun:((p.semAt F.round a.eval).run P w)=.ok (.value (a.tmps.getD t undef)) w:=by
    rw [Oper.semAt_eq _ _ _ (fun c e=>by rcases ht with ht|ht <;> rw [ht] at e <;> cases e)]
    rcases ht with ht|ht <;> simp [execOp,ht,Act.eval]
   rw [hrun]
   show wpOpsIn F m P ops Q (List.range' (k+1) mvs.length) (a.put p.dst (a.tmps.getD t undef)) w
   rw [h2]
   exact mvs_run hF mvs (k+1) _ (by rw [hps]; exact h6) h
theorem mvs_inv:∀ (mvs:List (Nat×Nat)) (l:List Oper) {st:St} {a:Act},okMvs n mvs l=true->Inv E n C st a->Inv E n C (st.moves mvs) (moveActs a mvs)
 |[],_,st,a,_,h=>h
 |(d,s)::mvs,[],st,a,hok,h=>by simp [okMvs] at hok
 |(d,s)::mvs,p::ps,st,a,hok,h=>by
  simp only [okMvs,Bool.and_eq_true,beq_iff_eq,Option.isNone_iff_eq_none] at hok
  obtain ⟨⟨⟨⟨⟨h1,h2⟩,h3⟩,h4⟩,h5⟩,h6⟩:=hok
  exact mvs_inv mvs ps h6 (h.put (d':=some d) (by simp only [okDst,Bool.and_eq_true,beq_self_eq_true,true_and]; exact ⟨h3,h4⟩) (h.env s))
theorem puts_inv:∀ (ps:List Nat) (vs:List V) (us:List Value) {st:St} {a:Act},(∀ p∈ps,p < n.n/\inl n.pins p=false)->vs.length=ps.length->us.length=vs.length->(∀ (j:Nat) (c:V),vs[j]?=some c->R C c (us.getD j undef)) ->
  Inv E n C st a->Inv E n C (st.puts ps vs) { a with tmps:=(ps.zip us).foldl (fun t x=>t.setIfInBounds x.1 x.2) a.tmps }
 |[],vs,us,st,a,_,h1,h2,_,h=>by
  cases vs with
  |nil=>simpa [St.puts] using h
  |cons _ _=>simp at h1
 |p::ps,[],us,st,a,_,h1,_,_,h=>by simp at h1
 |p::ps,v::vs,[],st,a,_,h1,h2,_,h=>by simp at h2
 |p::ps,v::vs,u::us,st,a,hp,h1,h2,hr,h=>by
  obtain ⟨q1,q2⟩:=hp p (by simp)
  have hi:=h.put (d:=some p) (d':=some p) (by simp [okDst,q1,q2]) (hr 0 v rfl)
  exact puts_inv ps vs us (fun p' hp'=>hp p' (by simp [hp'])) (by simpa using h1) (by simpa using h2) (fun j c hj=>by simpa using hr (j+1) c (by simpa using hj)) hi
theorem getD_toList (t:Array Value) (i:Nat):t.toList.getD i undef=t.getD i undef:=by
 rw [List.getD_eq_getElem?_getD,Array.getD_eq_getD_getElem?,Array.getElem?_toList]
theorem ObjOk.ent {E':Ent} {r:Nat} (h:ObjOk E C r) (h0:E'.w0=E.w0) (hw:E'.Wr=E.Wr) (hm:∀ ks vs L,C.heap r=.mp ks vs->C.loc r=some L->E.Mb L.blk->E'.Mb L.blk):ObjOk E' C r:=by
 unfold ObjOk at h ⊢
 cases hh:C.heap r with
 |dead=>trivial
 |box cs =>
  rw [hh] at h
  unfold BoxOk at h ⊢
  rw [h0,hw]; exact h
 |rows s rs =>
  rw [hh] at h
  unfold RowsOk at h ⊢
  rw [h0,hw]; exact h
 |mp ks vs =>
  rw [hh] at h
  obtain ⟨L,hl,⟨clock,ents,h1,h2,h3,h4,h5⟩,h6,h7,h8⟩:=h
  refine ⟨L,hl,⟨clock,ents,h1,h2,h3,h4,fun j v hj=>?_⟩,by rw [h0]; exact h6,h7,hm ks vs L hh hl h8⟩
  obtain ⟨e,a2,a3⟩:=h5 j v hj
  refine ⟨e,a2,?_⟩
  by_cases hv:∃ s rows,v=.own s rows
  ·obtain ⟨s,rows,rfl⟩:=hv
   obtain ⟨b,cap,cur,e,g,q1,q2,q3,q4,q5,q6,q7,q8,q9,q10,q11⟩:=a3
   exact ⟨b,cap,cur,e,g,q1,q2,q3,q4,q5,q6,q7,q8,q9,by rw [h0]; exact q10,q11⟩
  ·have hne:∀ s rows,v≠.own s rows:=fun s rows e=>hv ⟨s,rows,e⟩
   rw [EntOk.other hne] at a3 ⊢
   exact a3
theorem rng_sound (h:Inv E n C st a) {x:X} {ps:List Nat} {mvs:List (Nat×Nat)} {keep objs:List Nat} {b:Go.Ab.C} {y:Operand} {ps':Array Tmp} {asg body:Code} {Q:Ex->St->Prop} {Q':Exit->Act->World->Prop}
  (hok:okC P n (.rng x ps mvs keep objs b) (.rangeFunc y ps' asg body)=true) (hk:wpC P (.rng x ps mvs keep objs b) st Q) (hq:∀ C' st' a',Inv E n C' st' a'->Q .normal st'->Q' .normal a' C'.w) :
  (Code.rangeFunc y ps' asg body).wp P Q' a C.w:=by
 simp only [okC,Bool.and_eq_true,beq_iff_eq,List.all_eq_true,decide_eq_true_eq,Bool.not_eq_true'] at hok
 obtain ⟨⟨⟨⟨⟨hx,rfl⟩,hps⟩,hasg⟩,hflat⟩,hbody⟩:=hok
 have hX:=h.ev hx
 simp only [wpC] at hk
 split at hk
 rotate_left
 ·exact hk.elim
 rename_i f caps hxv
 rw [hxv] at hX
 obtain ⟨hcb,hcl,xs,hY,hlen,Iu,hI0,hround,hend⟩:=hk
 generalize hu:a.eval y=u at hX
 cases hX with
 |fn _ _ _ us ws l1 l2 r1 r2 =>
 have hus:us=[]:=List.eq_nil_of_length_eq_zero (by simpa using l1.symm)
 subst hus
 -- the entry of a round
 let Fk:Nat->Nat->Prop:=fun b off=>C.F b off/\(C.w.cell? ⟨b,off,none⟩).isSome=true
 let E0:Ent:={ E with pars:=a.tmps.toList,wk:=C.w,Fk:=Fk,Mb:=fun b=>E.Mb b/\b < C.w.heap.size,fk:=fun b off hf=>hf.2 }
 let n':Sz:=⟨n.n,keep ++ n.pins,true⟩
 obtain ⟨encs,henc,hseq⟩:=hY C.w Fk C.G ws l2 (fun i c hi=>by
  have h1:=R.of_closed (C:=C) (C':=bare C.w C.F C.G) (fun b off hF=>⟨hF,rfl⟩) (fun _ h=>h) (r2 i c hi) (closedL_all hcl i c hi)
  exact R.thin (C:=bare C.w C.F C.G) (C':=bare C.w Fk C.G) (fun b off x hF hx=>⟨⟨hF,by show (C.w.cell? _).isSome=true; rw [show C.w.cell? ⟨b,off,none⟩=some x from hx]; rfl⟩,hx⟩) (fun _ h=>h) rfl rfl h1)
 have hwide:=hseq (5 - 1)
 have h0size:E.w0.heap.size<=C.w.heap.size:=h.frame.size
 have hmark:∀ d∈a.defers,∃ D,d={ target:=.collected D,args:=#[] }/\D < C.w.heap.size:=fun d hd=>by
  obtain ⟨D,q1,q2,_⟩:=h.marks d hd
  exact ⟨D,q1,block_lt q2⟩
 -- into the round
 obtain ⟨Ck,hk1,hkw,hkF⟩:=h.keep keep objs
 have i0:Inv E0 n' Ck (st.keep keep objs) a :=
  {
   heap:=hk1.heap,env:=hk1.env
   objs:=fun r=>(hk1.objs r).ent rfl rfl fun ks vs L e1 e2 e3=>⟨e3,by
    have:=(hk1.objs r).lt e2 (by rw [e1]; rfl)
    rwa [hkw] at this⟩
   inj:=hk1.inj,fin:=hk1.fin,gnew:=hk1.gnew,frame:=hk1.frame,marks:=hk1.marks,mnd:=hk1.mnd
   fkeep:=fun b off hf=>⟨by rw [hkF]; exact hf.1,by rw [hkw]⟩
   stay:=fun b o _ hb=>by rw [hkw]; exact hb
   mball:=fun e=>by cases e
   wsz:=by rw [hkw]; exact Nat.le_refl _
   size:=hk1.size
   par:=fun i _=>(getD_toList _ _).symm
   fnew:=hk1.fnew,gsub:=hk1.gsub }
 let I:List (Fin xs.length)->World->Prop:=fun pre W=>∃ C1 st1,C1.w=W/\Inv E0 n' C1 st1 a/\Iu (pre.map xs.get) st1
 rw [<- wpIn_wide (n:=5)]
 obtain ⟨id,ops,dr,hreg⟩ : ∃ id ops dr,asg=.region id ops dr:=by
  cases asg <;> first|exact ⟨_,_,_,rfl⟩|(simp at hasg)
 subst hreg
 simp only [Bool.and_eq_true,Bool.not_eq_true'] at hasg
 obtain ⟨hmv,rfl⟩:=hasg
 have hml:∀ (mvs:List (Nat×Nat)) (l:List Oper),okMvs n' mvs l=true->mvs.length=l.length:=fun mvs=>by
  induction mvs with
  |nil=>intro l hl; cases l with
   |nil=>rfl
   |cons _ _=>simp [okMvs] at hl
  |cons m mvs ih =>
   intro l hl
   obtain ⟨d,s⟩:=m
   cases l with
   |nil=>simp [okMvs] at hl
   |cons o l =>
    simp only [okMvs,Bool.and_eq_true] at hl
    simp [ih l hl.2]
 refine wpIn_rangeFunc_ownG (F:=Fence.wide) (w0:=C.w) rfl (by omega) (gf:=f) (lb:=ws.toArray) (by rw [hu]) trivial (fun args w=>run_callFunc hcb args w) hwide
  (fun {A B C} h1 h2 b off x hf hx=>h2 b off x hf (h1 b off x hf hx)) (fun W l o o' _ hl hc _ b off x hf hx=>?_) (Go.RowKit.Below.refl _ _) (fun i=>?_)
  I (fun _ _ _=>False) (fun s X Y row hs hg hr=>?_) (fun c s X Y row hs _ _=>hs) ⟨Ck,_,hkw,i0,hI0⟩
  (fun i=>moveActs { tmps:=(ps'.zip (encs i).toArray).foldl (fun t (p,v)=>t.setIfInBounds p v) a.tmps,defers:=[] } mvs)
  (fun l i W K hK=>?_) (fun l pre i W hi hlt=>?_) (fun D ys W hD hS hi hDb=>?_) (fun D c pre W _ _ hx _=>hx.elim)
 ·-- what is no cells turns
  have hne:b≠l:=fun e=>by
   subst e
   obtain ⟨c,e,fr,hb⟩:=cell_block hx
   rw [hb] at hl; cases hl; cases hc
  rw [<- hx]
  exact World.cell?_of_block (a:=⟨b,off,none⟩) (World.putObj_heap_other hne)
 ·have:=(henc i).1
  have h2:=(hlen (xs.get i) (List.get_mem _ _)).1
  simp only [List.size_toArray]
  rw [this,h2]; simp
 ·-- the invariant abides
  obtain ⟨C1,st1,rfl,inv,hu1⟩:=hs
  have hodd:=inv.odd (Y:=Y) (row:=row) (ds:=a.defers) hg (fun r e=>(hr r e).2) (fun r e _ _ _ hM=>by have:=(hr r e).1; have:=hM.2; omega) (fun r e=>by have:=(hr r e).1; show E.w0.heap.size<=r; omega)
   (List.Sublist.refl _) (fun r e hm=>by
    obtain ⟨D,q1,q2⟩:=hmark _ hm
    cases q1
    have:=(hr r e).1; omega) (fun r e o _ ho=>by
    have h1:=block_lt (w:=C.w) ho
    have:=(hr r e).1; omega)
  exact ⟨_,st1,rfl,hodd,hu1⟩
 ·-- the values are laid
  refine wpIn_region ?_
  rw [List.range_eq_range',<- Array.length_toList,<- hml mvs _ hmv]
  exact mvs_run (n:=n') (fun _=>trivial) mvs 0 _ (by simpa using hmv) hK
 ·-- a round
  obtain ⟨C1,st1,rfl,inv,hu1⟩:=hi
  have hvs:=hlen (xs.get i) (List.get_mem _ _)
  have hr:=hround (pre.map xs.get) (xs.get i) (List.get_mem _ _) (fun ys hys=>by
   obtain ⟨j,_,rfl⟩:=List.mem_map.1 hys
   exact List.get_mem _ _) (by simpa using hlt) st1 hu1
  let EW:Ent:={ E0 with wk:=C1.w,fk:=fun b off hf=>(by
   show (C1.w.cell? _).isSome=true
   rw [(inv.fkeep b off hf).2]; exact hf.2) }
  have inv1:Inv EW n' C1 st1 { a with defers:=[] } :=
   {
    heap:=inv.heap,env:=inv.env,objs:=fun r=>(inv.objs r).ent rfl rfl fun _ _ _ _ _ h=>h
    inj:=inv.inj,fin:=inv.fin,gnew:=inv.gnew,frame:=inv.frame,marks:=fun d hd=>by simp at hd,mnd:=List.nodup_nil
    fkeep:=fun b off hf=>⟨(inv.fkeep b off hf).1,rfl⟩
    stay:=fun b o _ hb=>hb
    mball:=fun e=>by cases e
    wsz:=Nat.le_refl _
    size:=inv.size,par:=inv.par,fnew:=inv.fnew,gsub:=inv.gsub }
  have inv2:=puts_inv (n:=n') ps'.toList (xs.get i) (encs i) (fun p hp=>hps p hp) hvs.1 ((henc i).1) (fun j c hj=>by
   have h1:=(henc i).2 C1.w C1.G (fun b off x hf hx=>by rw [(inv.fkeep b off hf).2]; exact hx) j c hj
   exact R.of_closed (C:=bare C1.w Fk C1.G) (C':=C1) (fun b off hF=>⟨(inv.fkeep b off hF).1,rfl⟩) (fun _ h=>h) h1 (closedL_all hvs.2 j c hj)) inv1
  have e1:(ps'.toList.zip (encs i)).foldl (fun t x=>t.setIfInBounds x.1 x.2) a.tmps=(ps'.zip (encs i).toArray).foldl (fun t (p,v)=>t.setIfInBounds p v) a.tmps:=by
   rw [<- Array.foldl_toList,Array.toList_zip]
  rw [e1] at inv2
  have inv3:=mvs_inv (n:=n') mvs ops.toList hmv inv2
  refine flat_sound (n:=n') b body hflat hbody inv3 hr fun e C' st' a' i' hq'=>?_
  cases e with
  |exit _=>exact hq'.elim
  |ret=>exact hq'.elim
  |normal =>
  obtain ⟨C2,i2,w2,F2⟩:=i'.keep keep objs
  have hst:∀ (k:Nat) (o:Obj),KeepO E0 k o->C1.w.heap[k]?=some o->C'.w.heap[k]?=some o:=fun k o hko hb=>i'.stay k o hko hb
  refine ⟨⟨i'.wsz,fun k o hk hb hc=>hst k o ?_ hb⟩,fun b off x hf hx=>?_,C2,_,w2,?_,by simpa using hq'⟩
  ·cases o with
   |cells _ _ _=>cases hc
   |map _ _=>exact fun hM=>by have:=hM.2; omega
   |_=>trivial
  ·rw [(i'.fkeep b off hf).2]; exact hx
  ·exact {
     heap:=i2.heap
     env := fun t=>by
      by_cases ht:t∈keep
      ·have:=i2.env t
       rw [i'.par t (List.mem_append_left _ ht)] at this
       rwa [show EW.pars=a.tmps.toList from rfl,getD_toList] at this
      ·have:(st'.keep keep objs).env t=.undef:=by
        simp only [St.keep,St.keepL]
        rw [tab_map .undef (fun t=>(st'.env t).kill fun r=>!inl (st'.objsK keep objs) r),if_neg ht]
       rw [this]; exact .undef _
     objs:=fun r=>(i2.objs r).ent rfl rfl fun _ _ _ _ _ h=>h
     inj:=i2.inj,fin:=i2.fin,gnew:=i2.gnew,frame:=i2.frame
     marks:=fun d hd=>by
      obtain ⟨D,q1,q2,q3⟩:=inv.marks d hd
      exact ⟨D,q1,by rw [w2]; exact hst D _ trivial q2,q3⟩
     mnd:=inv.mnd
     fkeep:=fun b off hf=>by
      obtain ⟨q1,q2⟩:=i2.fkeep b off hf
      exact ⟨q1,q2.trans (inv.fkeep b off hf).2⟩
     stay:=fun b o ho hb=>by rw [w2]; exact hst b o ho (inv.stay b o ho hb)
     mball:=fun e=>by cases e
     wsz:=by rw [w2]; exact Nat.le_trans inv.wsz i'.wsz
     size:=inv.size,par:=inv.par,fnew:=i2.fnew,gsub:=i2.gsub }
 ·-- behind the last
  obtain ⟨C1,st1,rfl,inv,hu1⟩:=hi
  rw [hS] at hu1
  refine hq C1 st1 _ ?_ (hend st1 hu1)
  exact {
    heap:=inv.heap,env:=inv.env
    objs:=fun r=>(inv.objs r).ent rfl rfl fun _ _ _ _ _ h=>h.1
    inj:=inv.inj,fin:=inv.fin,gnew:=inv.gnew,frame:=inv.frame
    marks:=fun d hd=>by
     rcases List.mem_cons.1 hd with rfl|hd
     ·exact ⟨D,rfl,hDb,by show E.w0.heap.size<=D; omega⟩
     ·exact inv.marks d hd
    mnd:=List.nodup_cons.2 ⟨fun hm=>by
     obtain ⟨D',q1,q2⟩:=hmark _ hm
     cases q1; omega,inv.mnd⟩
    fkeep:=fun b off hf=>by
     obtain ⟨q1,q2⟩:=h.fkeep b off hf
     have hs:=E.fk b off hf
     rw [<- q2] at hs
     obtain ⟨q3,q4⟩:=inv.fkeep b off ⟨q1,hs⟩
     exact ⟨q3,q4.trans q2⟩
    stay:=fun b o ho hb=>inv.stay b o (by cases o <;> first|exact ho|exact fun hM=>ho hM.1) (h.stay b o ho hb)
    mball:=h.mball
    wsz:=Nat.le_trans h.wsz inv.wsz
    size:=inv.size,par:=h.par,fnew:=inv.fnew,gsub:=inv.gsub }
end Go.Ab

namespace Go.Ab
open Go
variable {E:Ent} {n:Sz} {C:Ctx} {st:St} {a:Act} {P:Program}
theorem least_of {p:Nat->Prop} (h:∃ m,p m):∃ m,p m/\∀ k,p k->m<=k:=by
 obtain ⟨m,hm⟩:=h
 induction m using Nat.strongRecOn with
 |_ m ih =>
  by_cases hk:∃ k,k < m/\p k
  ·obtain ⟨k,h1,h2⟩:=hk; exact ih k h1 h2
  ·exact ⟨m,hm,fun k hk'=>Nat.le_of_not_lt fun hlt=>hk ⟨k,hlt,hk'⟩⟩
theorem wp_loop_m {c:Code} {Q:Exit->Act->World->Prop} {a:Act} {w:World} (I:Act->World->Nat->Prop) (h0:∃ m,I a w m)
  (round:∀ a w m,I a w m->c.wp P (Exit.then (fun a' w'=>∃ m',m' < m/\I a' w' m') Q) a w):(Code.loop c).wp P Q a w:=by
 classical
 let μ:Act->World->Nat:=fun a w=>if h:∃ m,I a w m then Classical.choose (least_of h) else 0
 have hμ:∀ a w,(∃ m,I a w m)->I a w (μ a w)/\∀ k,I a w k->μ a w<=k:=fun a w h=>by
  have:μ a w=Classical.choose (least_of h):=by simp only [μ,h,dif_pos]
  rw [this]; exact Classical.choose_spec (least_of h)
 refine wp_loop (fun a w=>∃ m,I a w m) μ h0 fun a w hI=>?_
 refine wp_mono (round a w (μ a w) (hμ a w hI).1) fun e a' w' hq=>?_
 cases e with
 |normal =>
  obtain ⟨m',h1,h2⟩:=hq
  exact ⟨⟨m',h2⟩,Nat.lt_of_le_of_lt ((hμ a' w' ⟨m',h2⟩).2 m' h2) h1⟩
 |_=>exact hq
def RegD (P:Program):Prop :=
 ∀
  {E:Ent} {n:Sz} {C:Ctx} {st:St} {a:Act} {ops:Array Oper} {id:Nat} {dr:Bool} {Q:Exit->Act->World->Prop} {K:St->Prop} {l:List (Op'×Nat)},
  (∀ C' st' a',Inv E n C' st' a'->K st'->Q .normal a' C'.w)->okOpers P ops n (l.map (·.1)) ops.toList=true->okD ops l=true->Inv E n C st a->wpOpsD P l st K->(Code.region id ops dr).wp P Q a C.w
theorem wpC_sound (hD:RegD P):∀ (c:Go.Ab.C) (code:Code),okC P n c code=true->∀ {C:Ctx} {st:St} {a:Act} {Q:Ex->St->Prop} {Q':Exit->Act->World->Prop},Inv E n C st a->wpC P c st Q ->
  (∀ e C' st' a',Inv E n C' st' a'->Q e st'->Q' e.to a' C'.w)->code.wp P Q' a C.w
 |.skip,code,hok,C,st,a,Q,Q',h,hk,hq=>by
  cases code <;> simp [okC] at hok
  exact wp_skip (hq .normal C st a h hk)
 |.ret,code,hok,C,st,a,Q,Q',h,hk,hq=>by
  cases code <;> simp [okC] at hok
  exact wp_ret (hq .ret C st a h hk)
 |.exit i,code,hok,C,st,a,Q,Q',h,hk,hq=>by
  cases code <;> simp [okC] at hok
  subst hok
  exact wp_exit (hq (.exit _) C st a h hk)
 |.reg names ops,code,hok,C,st,a,Q,Q',h,hk,hq=>by
  cases code <;> simp only [okC,Bool.and_eq_true,Bool.not_eq_true',Bool.false_eq_true] at hok
  obtain ⟨hok,rfl⟩:=hok
  obtain ⟨C1,h1,w1,_⟩:=h.kills names
  rw [<- w1]
  exact region_sound (fun C' st' a' h' hk'=>hq .normal C' st' a' h' hk') hok h1 hk
 |.regd names ops,code,hok,C,st,a,Q,Q',h,hk,hq=>by
  cases code <;> simp only [okC,Bool.and_eq_true,Bool.false_eq_true] at hok
  obtain ⟨C1,h1,w1,_⟩:=h.kills names
  rw [<- w1]
  exact hD (fun C' st' a' h' hk'=>hq .normal C' st' a' h' hk') hok.1 hok.2 h1 hk
 |.seq x y,code,hok,C,st,a,Q,Q',h,hk,hq=>by
  cases code <;> simp only [okC,Bool.and_eq_true,Bool.false_eq_true] at hok
  refine wp_seq (wpC_sound hD x _ hok.1 h hk fun e C' st' a' h' hk'=>?_)
  cases e with
  |normal=>exact wpC_sound hD y _ hok.2 h' hk' hq
  |exit i=>exact hq (.exit i) C' st' a' h' hk'
  |ret=>exact hq .ret C' st' a' h' hk'
 |.cond x b c,code,hok,C,st,a,Q,Q',h,hk,hq=>by
  cases code <;> simp only [okC,Bool.and_eq_true,Bool.false_eq_true] at hok
  obtain ⟨⟨hx,hb⟩,hc⟩:=hok
  simp only [wpC] at hk
  have hX:=h.ev hx
  split at hk
  ·rename_i t ht
   rw [ht] at hX
   exact wp_cond_split (R_bool hX) (fun e=>wpC_sound hD b _ hb h (hk.1 e) hq) (fun e=>wpC_sound hD c _ hc h (hk.2 e) hq)
  ·exact hk.elim
 |.blk i b,code,hok,C,st,a,Q,Q',h,hk,hq=>by
  cases code <;> simp only [okC,Bool.and_eq_true,beq_iff_eq,Bool.false_eq_true] at hok
  obtain ⟨rfl,hb⟩:=hok
  refine wp_block (wpC_sound hD b _ hb h hk fun e C' st' a' h' hk'=>?_)
  cases e with
  |normal=>exact hq .normal C' st' a' h' hk'
  |exit j =>
   simp only [Ex.to,Exit.inBlock]
   simp only at hk'
   split
   ·rename_i e; rw [if_pos e] at hk'; exact hq .normal C' st' a' h' hk'
   ·rename_i e; rw [if_neg e] at hk'; exact hq (.exit j) C' st' a' h' hk'
  |ret=>exact hq .ret C' st' a' h' hk'
 |.fgt stop keep objs b,code,hok,C,st,a,Q,Q',h,hk,hq=>by
  have hok':okC P n b code=true:=by cases code <;> simpa only [okC] using hok
  refine wpC_sound hD b code hok' h hk fun e C' st' a' h' hk'=>?_
  cases e with
  |normal =>
   obtain ⟨C1,h1,w1,_⟩:=h'.keep keep objs
   rw [<- w1]
   exact hq .normal C1 _ a' h1 hk'
  |exit i=>exact hq (.exit i) C' st' a' h' hk'
  |ret=>exact hq .ret C' st' a' h' hk'
 |.loop keep objs b,code,hok,C,st,a,Q,Q',h,hk,hq=>by
  cases code <;> simp only [okC,Bool.false_eq_true] at hok
  obtain ⟨I,⟨m,hm⟩,hround⟩:=hk
  refine wp_loop_m (fun a w m=>∃ C st,C.w=w/\Inv E n C st a/\I st m) ?_ fun a w m hI=>?_
  ·obtain ⟨C1,h1,w1,_⟩:=h.keep keep objs
   exact ⟨m,C1,_,w1,h1,hm⟩
  ·obtain ⟨C1,st1,rfl,h1,hI⟩:=hI
   refine wpC_sound hD b _ hok h1 (hround st1 m hI) fun e C' st' a' h' hk'=>?_
   cases e with
   |normal =>
    obtain ⟨m',hlt,hI'⟩:=hk'
    obtain ⟨C2,h2,w2,_⟩:=h'.keep keep objs
    exact ⟨m',hlt,C2,_,w2,h2,hI'⟩
   |exit i=>exact hq (.exit i) C' st' a' h' hk'
   |ret=>exact hq .ret C' st' a' h' hk'
 |.rng x ps mvs keep objs b,code,hok,C,st,a,Q,Q',h,hk,hq=>by
  cases code <;> first|(simp [okC] at hok; done)|skip
  exact rng_sound h hok hk fun C' st' a' h' hk'=>hq .normal C' st' a' h' hk'
end Go.Ab

namespace Go.Ab
open Go
variable {E:Ent} {n:Sz} {C:Ctx} {st:St} {a:Act} {P:Program}
def enterA (v:V) (ns:List Nat):V×List Nat×List (Nat×AO) :=
 match v with
 |.io cs=>match ns with
  |r::ns=>(.ptr r 0,(thawL cs ns).2.1,(thawL cs ns).2.2 ++ [(r,.box (thawL cs ns).1)])
  |[]=>(.undef,[],[])
 |v=>thawC v ns
def enterL:List V->List Nat->List V×List Nat×List (Nat×AO)
 |[],ns=>([],ns,[])
 |v::l,ns=>((enterA v ns).1::(enterL l (enterA v ns).2.1).1,(enterL l (enterA v ns).2.1).2.1,(enterA v ns).2.2 ++ (enterL l (enterA v ns).2.1).2.2)
def St.first:St:={ env:=fun _=>.undef,heap:=fun _=>.dead }
def St.enter (args:List V) (ns:List Nat):St:={ (St.first.sets (enterL args ns).2.2) with env:=fun t=>(enterL args ns).1.getD t .undef }
structure BoxFree (E:Ent) (C:Ctx) (b base k:Nat):Prop where
 F:(∀ off,¬ C.F b off)\/¬ C.G b
 rng:∀ j,j < k->¬ C.F b (base+j)/\E.Wr b (base+j)
 obj:∀ r L,C.loc r=some L->(C.heap r).isDead=false->L.blk≠b
structure Begun (E:Ent) (n:Sz) (C:Ctx) (st:St) (a:Act) (os ns:List Nat) (x:List Nat×List (Nat×AO)) (C':Ctx):Prop where
 inv:Inv E n C' (st.sets x.2) a
 w:C'.w=C.w
 le:Le C C'
 sub:x.1.Sublist ns
 dead:∀ r∈x.1,((st.sets x.2).heap r).isDead=true
 other:∀ r,r∉ns->(st.sets x.2).heap r=st.heap r
 F:∀ b off,b∉os->C'.F b off->C.F b off
 G:C'.G=C.G
 obj:∀ r L,C'.loc r=some L->(C'.heap r).isDead=false->(C.loc r=some L/\(C.heap r).isDead=false)\/L.blk∈os
theorem Thawed.begun {os ns:List Nat} {x:List Nat×List (Nat×AO)} {C':Ctx} (h:Thawed E n C st a os ns x C'):Begun E n C st a os ns x C' :=
 ⟨h.inv,h.w,h.le,h.sub,h.dead,h.other,h.F,h.G,h.obj⟩
theorem Begun.comp {os1 os2 ns ns1 ns2:List Nat} {x1 x2:List (Nat×AO)} {C1 C2:Ctx} (h1:Begun E n C st a os1 ns (ns1,x1) C1) (h2:Begun E n C1 (st.sets x1) a os2 ns1 (ns2,x2) C2) :
  Begun E n C st a (os1 ++ os2) ns (ns2,x1 ++ x2) C2:=by
 refine ⟨by simp only [sets_append]; exact h2.inv,h2.w.trans h1.w,h1.le.trans h2.le,h2.sub.trans h1.sub,fun r hr=>by simp only [sets_append]; exact h2.dead r hr,fun r hr=>?_,fun b off hn hx=>?_,h2.G.trans h1.G,fun r L q1 q2=>?_⟩
 ·simp only [sets_append]
  exact (h2.other r fun h=>hr (h1.sub.subset h)).trans (h1.other r hr)
 ·simp only [List.mem_append,not_or] at hn
  exact h1.F b off hn.1 (h2.F b off hn.2 hx)
 ·rcases h2.obj r L q1 q2 with ⟨q3,q4⟩|q3
  ·rcases h1.obj r L q3 q4 with q5|q5
   ·exact .inl q5
   ·exact .inr (List.mem_append_left _ q5)
  ·exact .inr (List.mem_append_right _ q3)
theorem Begun.free {os ns:List Nat} {x:List Nat×List (Nat×AO)} {C':Ctx} (h:Begun E n C st a os ns x C') {b:Nat} (hf:Free E C b) (hb:b∉os):Free E C' b :=
 ⟨fun off hF=>hf.F off (h.F b off hb hF),by rw [h.G]; exact hf.G,hf.W,fun r L q1 q2 e=>by
  rcases h.obj r L q1 q2 with ⟨q3,q4⟩|q3
  ·exact hf.obj r L q3 q4 e
  ·exact hb (e ▸ q3)⟩
theorem Begun.box {os ns:List Nat} {x:List Nat×List (Nat×AO)} {C':Ctx} (h:Begun E n C st a os ns x C') {b base k:Nat} (hf:BoxFree E C b base k) (hb:b∉os):BoxFree E C' b base k :=
 ⟨hf.F.imp (fun q off hF=>q off (h.F b off hb hF)) (fun q=>by rw [h.G]; exact q),fun j hj=>⟨fun hF=>(hf.rng j hj).1 (h.F b _ hb hF),(hf.rng j hj).2⟩,fun r L q1 q2 e=>by
  rcases h.obj r L q1 q2 with ⟨q3,q4⟩|q3
  ·exact hf.obj r L q3 q4 e
  ·exact hb (e ▸ q3)⟩
theorem RA_mono {C':Ctx} (hc:Le C C') (hw:C'.w=C.w) {c:V} {u:Value} (h:RA C c u):RA C' c u:=by
 by_cases hcc:∃ cs,c=.io cs
 ·obtain ⟨cs,rfl⟩:=hcc
  exact IoR_mono hc hw h
 ·have hne:∀ cs,c≠.io cs:=fun cs e=>hcc ⟨cs,e⟩
  rw [RA_other hne] at h ⊢
  exact RB1_mono hc hw h
theorem enterA_sound (h:Inv E n C st a) {v:V} {u:Value} {ns:List Nat} (hR:RA C v u) (hown:∀ b∈ownsA C.w v u,Free E C b) (hnd:(ownsA C.w v u ++ boxA v u).Nodup)
  (hbox:∀ cs,v=.io cs->∃ b base,u=.pointer (some ⟨b,base,none⟩)/\BoxFree E C b base cs.length) (hns:ns.Nodup) (hdead:∀ r∈ns,(st.heap r).isDead=true) (hmb:∀ b,E.Mb b) :
  ∃ C',Begun E n C st a (ownsA C.w v u ++ boxA v u) ns (enterA v ns).2 C'/\R C' (enterA v ns).1 u:=by
 by_cases hv:∃ cs,v=.io cs
 ·obtain ⟨cs,rfl⟩:=hv
  obtain ⟨b,base,rfl,hbf⟩:=hbox cs rfl
  cases ns with
  |nil =>
   refine ⟨C,⟨h,rfl,h.le_grow (Ext.refl _) (fun _ _ h=>h),List.Sublist.refl _,fun r hr=>by simp [enterA] at hr,fun _ _=>rfl,fun _ _ _ h=>h,rfl,fun _ _ h1 h2=>.inl ⟨h1,h2⟩⟩,.undef _⟩
  |cons r ns =>
   obtain ⟨b',base',cur,e,g,hu,hcur,hcell⟩:=hR
   cases hu
   have eo:ownsA C.w (.io cs) (.pointer (some ⟨b,base,none⟩))=ownsL cs (cellsAt C.w b base cs.length):=rfl
   have eb:boxA (.io cs) (.pointer (some ⟨b,base,none⟩))=[b]:=rfl
   rw [eo,eb] at hnd ⊢
   rw [eo] at hown
   obtain ⟨nd1,_,ndj⟩:=List.nodup_append.1 hnd
   have hbn:b∉ownsL cs (cellsAt C.w b base cs.length):=fun hm=>ndj b hm b (by simp) rfl
   obtain ⟨hrn,hns'⟩:=List.nodup_cons.1 hns
   have us_get:∀ j,j < cs.length->(cellsAt C.w b base cs.length).getD j undef=cur.getD (base+j) undef:=fun j hj=>by
    rw [cellsAt_get _ _ _ _ _ hj,cell_of_row _ _ _ _ _ _ hcur,Array.getD_eq_getD_getElem?]
   obtain ⟨C1,t1,l1,r1⟩:=thawL_sound cs (cellsAt C.w b base cs.length) ns h (by rw [cellsAt_len]) (fun j c hj=>by
     obtain ⟨a1,_,a3⟩:=hcell j c hj
     rw [us_get j (List.getElem?_eq_some_iff.1 hj).1,Array.getD_eq_getD_getElem?,a1]
     exact a3) hown nd1 hns' (fun r' hr'=>hdead r' (by simp [hr'])) (fun _=>hmb)
   rw [cellsAt_len] at l1
   have hb1:=t1.begun.box hbf hbn
   have hrd:((st.sets (thawL cs ns).2.2).heap r).isDead=true:=by rw [t1.other r hrn]; exact hdead r (by simp)
   have l2:=t1.inv.le_obj hrd (.box (thawL cs ns).1) (some ⟨b,base,0⟩)
   have hcur1:C1.w.heap[b]?=some (.cells cur e (0,0)):=by rw [t1.w]; exact hcur
   have i2:=t1.inv.obj hrd (o:=.box (thawL cs ns).1) (L:=some ⟨b,base,0⟩) (by
    unfold ObjOk
    simp only [upd,if_true]
    refine ⟨_,rfl,⟨cur,e,fun j=>cur.getD (base+j) undef,hcur1,fun j c hj=>?_⟩,fun j hj=>⟨(hb1.rng j (by omega)).1,.inr (hb1.rng j (by omega)).2⟩,hb1.F⟩
    have hjl:j < cs.length:=by rw [<- l1]; exact (List.getElem?_eq_some_iff.1 hj).1
    have hR:=r1 j c hj
    rw [us_get j hjl] at hR
    obtain ⟨a1,a2,_⟩:=hcell j cs[j] (by simp)
    have e1:cur.getD (base+j) undef=g j:=by rw [Array.getD_eq_getD_getElem?,a1]; rfl
    rw [e1] at hR
    dsimp only
    rw [e1]
    exact ⟨a1,a2,hR.mono l2⟩) (by
    rintro L' hL' r' L'' _ hl ha
    cases hL'
    exact hb1.obj r' L'' hl ha)
   refine ⟨{ C1 with heap:=upd C1.heap r (.box (thawL cs ns).1),loc:=upd C1.loc r (some ⟨b,base,0⟩) },⟨by simpa [enterA,sets_append,St.sets] using i2,t1.w,t1.le.trans l2,t1.sub.trans (List.sublist_cons_self _ _),fun r' hr'=>?_,fun r' hr'=>?_,fun b' off hn hx=>?_,t1.G,fun r' L q1 q2=>?_⟩,?_⟩
   ·have:r'≠r:=fun e=>hrn (t1.sub.subset (by rw [<- e]; exact hr'))
    simp only [enterA,sets_append,St.sets,St.set,upd,this,if_false]
    exact t1.dead r' hr'
   ·simp only [List.mem_cons,not_or] at hr'
    simp only [enterA,sets_append,St.sets,St.set,upd,hr'.1,if_false]
    exact t1.other r' hr'.2
   ·simp only [List.mem_append,not_or] at hn
    exact t1.F b' off hn.1 hx
   ·by_cases e':r'=r
    ·simp only [upd,e',if_true,Option.some.injEq] at q1
     subst q1
     exact .inr (by simp)
    ·simp only [upd,e',if_false] at q1 q2
     rcases t1.obj r' L q1 q2 with q3|q3
     ·exact .inl q3
     ·exact .inr (List.mem_append_left _ q3)
   ·have:R { C1 with heap:=upd C1.heap r (.box (thawL cs ns).1),loc:=upd C1.loc r (some ⟨b,base,0⟩) } (.ptr r 0) (.pointer (some ⟨b,base+0,none⟩)) :=
     .ptr r 0 (thawL cs ns).1 ⟨b,base,0⟩ (by simp [upd]) (by simp [upd])
    simpa [enterA] using this
 ·have hne:∀ cs,v≠.io cs:=fun cs e=>hv ⟨cs,e⟩
  rw [RA_other hne] at hR
  rw [ownsA_other hne,boxA_other hne,List.append_nil] at hnd ⊢
  rw [ownsA_other hne] at hown
  have e:enterA v ns=thawC v ns:=by unfold enterA; split <;> first|exact absurd rfl (hne _)|rfl
  rw [e]
  obtain ⟨C',t,hr⟩:=thawC_sound h hR hown hns hdead (fun _ _=>hmb)
  exact ⟨C',t.begun,hr⟩
theorem enterL_sound:∀ (l:List V) (us:List Value) (ns:List Nat) {C:Ctx} {st:St},Inv E n C st a->l.length=us.length->(∀ (j:Nat) (c:V),l[j]?=some c->RA C c (us.getD j undef)) ->
  (∀ b∈listA (ownsA C.w) l us,Free E C b)->(listA (ownsA C.w) l us ++ listA boxA l us).Nodup->(∀ (i:Nat) cs,l[i]?=some (.io cs)->∃ b base,us.getD i undef=.pointer (some ⟨b,base,none⟩)/\BoxFree E C b base cs.length) ->
  ns.Nodup->(∀ r∈ns,(st.heap r).isDead=true)->(∀ b,E.Mb b) ->
  ∃ C' os,Begun E n C st a os ns (enterL l ns).2 C'/\(enterL l ns).1.length=us.length/\∀ (j:Nat) (c:V),(enterL l ns).1[j]?=some c->R C' c (us.getD j undef)
 |[],[],ns,C,st,h,_,_,_,_,_,_,hd,_=>⟨C,[],⟨h,rfl,h.le_grow (Ext.refl _) (fun _ _ h=>h),List.Sublist.refl _,hd,fun _ _=>rfl,fun _ _ _ h=>h,rfl,fun _ _ h1 h2=>.inl ⟨h1,h2⟩⟩,rfl,fun j c hj=>by simp [enterL] at hj⟩
 |[],_::_,_,_,_,_,hl,_,_,_,_,_,_,_=>by simp at hl
 |_::_,[],_,_,_,_,hl,_,_,_,_,_,_,_=>by simp at hl
 |v :: l, u :: us,ns,C,st,h,hl,hr,hf,hnd,hb,hns,hd,hmb=>by
  simp only [listA] at hnd hf
  have hnd':((ownsA C.w v u ++ boxA v u) ++ (listA (ownsA C.w) l us ++ listA boxA l us)).Nodup:=by
   refine (List.Perm.nodup_iff ?_).1 hnd
   simp only [List.append_assoc]
   refine List.Perm.append_left _ ?_
   rw [<- List.append_assoc,<- List.append_assoc]
   exact List.Perm.append_right _ List.perm_append_comm
  obtain ⟨nd1,nd2,ndj⟩:=List.nodup_append.1 hnd'
  obtain ⟨C1,t1,r1⟩:=enterA_sound h (by simpa using hr 0 v rfl) (fun b hb=>hf b (List.mem_append_left _ hb)) nd1 (fun cs e=>by simpa using hb 0 cs (by simp [e])) hns hd hmb
  obtain ⟨C2, os,t2,l2,r2⟩:=enterL_sound l us (enterA v ns).2.1 t1.inv (by simpa using hl) (fun j c hj=>RA_mono t1.le t1.w (by simpa using hr (j+1) c (by simpa using hj)))
   (by rw [t1.w]; exact fun b hb=>t1.free (hf b (List.mem_append_right _ hb)) fun hm=>ndj b hm b (List.mem_append_left _ hb) rfl) (by rw [t1.w]; exact nd2)
   (fun i cs hi=>by
    obtain ⟨b,base,q1,q2⟩:=hb (i+1) cs (by simpa using hi)
    refine ⟨b,base,by simpa using q1,t1.box q2 fun hm=>ndj b hm b (List.mem_append_right _ ?_) rfl⟩
    have:∀ (l:List V) (us:List Value) (i:Nat),l[i]?=some (.io cs)->us.getD i undef=.pointer (some ⟨b,base,none⟩)->b∈listA boxA l us:=by
     intro l
     induction l with
     |nil=>intro us i h1; simp at h1
     |cons v l ih =>
      intro us i h1 h2
      cases us with
      |nil=>simp [List.getD,undef] at h2
      |cons u us =>
       cases i with
       |zero =>
        simp only [List.getElem?_cons_zero,Option.some.injEq] at h1
        simp only [List.getD_cons_zero] at h2
        subst h1 h2
        exact List.mem_append_left _ (by simp [boxA])
       |succ i=>exact List.mem_append_right _ (ih us i (by simpa using h1) (by simpa using h2))
    exact this l us i (by simpa using hi) (by simpa using q1)) (t1.sub.nodup hns) t1.dead hmb
  refine ⟨C2,_,t1.comp t2,by simp [enterL,l2],fun j c hj=>?_⟩
  cases j with
  |zero =>
   simp only [enterL,List.getElem?_cons_zero,Option.some.injEq] at hj
   subst hj
   exact r1.mono t2.le
  |succ j=>simpa using r2 j c (by simpa [enterL] using hj)
end Go.Ab

namespace Go.Ab
open Go
variable {E:Ent} {n:Sz} {C:Ctx} {st:St} {a:Act} {P:Program}
mutual
def V.fresh:V->Bool
 |.sl fr _ rows=>(fr||rows.isEmpty)&&V.freshR rows
 |.cp cs _=>cs.isEmpty
 |.agg cs=>V.freshL cs
 |.tup cs=>V.freshL cs
 |.fn _ a b=>V.freshL a&&V.freshL b
 |_=>true
def V.freshL:List V->Bool
 |[]=>true
 |v::l=>V.fresh v&&V.freshL l
def V.freshR:List (List V)->Bool
 |[]=>true
 |r::l=>V.freshL r&&V.freshR l
end
theorem freshL_all {l:List V} (h:V.freshL l=true):∀ (j:Nat) (c:V),l[j]?=some c->c.fresh=true:=by
 induction l with
 |nil=>intro j c hc; simp at hc
 |cons v l ih =>
  simp only [V.freshL,Bool.and_eq_true] at h
  intro j c hc
  cases j with
  |zero=>simp at hc; subst hc; exact h.1
  |succ j=>exact ih h.2 j c (by simpa using hc)
theorem freshR_all {l:List (List V)} (h:V.freshR l=true):∀ (i j:Nat) (c:V),at2 l i j=some c->c.fresh=true:=by
 induction l with
 |nil=>intro i j c hc; simp [at2] at hc
 |cons v l ih =>
  simp only [V.freshR,Bool.and_eq_true] at h
  intro i j c hc
  cases i with
  |zero=>exact freshL_all h.1 j c (by simpa [at2] using hc)
  |succ i=>exact ih h.2 i j c (by simpa [at2] using hc)
theorem R_fresh {B:Ctx} (hw:B.w=C.w) (hF:∀ b off,C.F b off->C.G b->B.F b off) (hG:∀ b,C.G b->B.G b) {v:V} {u:Value} (h:R C v u):v.closed=true->v.fresh=true->R B v u:=by
 induction h with
 |undef u=>intro _ _; exact .undef u
 |bool b=>intro _ _; exact .bool b
 |int k m=>intro _ _; exact .int k m
 |str s=>intro _ _; exact .str s
 |nilp=>intro _ _; exact .nilp
 |nilf=>intro _ _; exact .nilf
 |ptr=>intro hc; simp [V.closed] at hc
 |rptr=>intro hc; simp [V.closed] at hc
 |sref=>intro hc; simp [V.closed] at hc
 |srefNil=>intro hc; simp [V.closed] at hc
 |srefZ=>intro hc; simp [V.closed] at hc
 |mp=>intro hc; simp [V.closed] at hc
 |nils s=>intro _ _; exact .nils s
 |nilsSome s b off=>intro _ _; exact .nilsSome s b off
 |slNil fr s=>intro _ _; exact .slNil fr s
 |slZ fr s a=>intro _ _; exact .slZ fr s a
 |sl fr s rows b base cap g hc hm hu hfr hcell hcl hr ih =>
  intro _ hf
  simp only [V.fresh,Bool.and_eq_true,Bool.or_eq_true,List.isEmpty_iff] at hf
  have hgb:rows≠[]->C.G b:=fun hne=>hfr (hf.1.resolve_right hne) hne
  refine .sl fr s rows b base cap g hc hm hu (fun _ hne=>hG _ (hgb hne)) (fun i j c hij=>?_) hcl (fun i j c hij=>ih i j c hij (hcl i j c hij) (freshR_all hf.2 i j c hij))
  obtain ⟨h1,h2,h3⟩:=hcell i j c hij
  refine ⟨by rw [hw]; exact h1,hF _ _ h2 (hgb fun e=>?_),h3⟩
  subst e; simp [at2] at hij
 |cp cs off b base g hcell hcl hr ih =>
  intro _ hf
  simp only [V.fresh,List.isEmpty_iff] at hf
  subst hf
  exact .cp [] off b base g (fun j c hj=>by simp at hj) (fun j c hj=>by simp at hj) (fun j c hj=>by simp at hj)
 |agg cs us hl h1 hr ih =>
  intro hc hf
  simp only [V.closed] at hc
  simp only [V.fresh] at hf
  exact .agg cs us hl h1 fun j c hj=>ih j c hj (closedL_all hc j c hj) (freshL_all hf j c hj)
 |tup cs us hl hr ih =>
  intro hc hf
  simp only [V.closed] at hc
  simp only [V.fresh] at hf
  exact .tup cs us hl fun j c hj=>ih j c hj (closedL_all hc j c hj) (freshL_all hf j c hj)
 |fn f first caps us ws hl hl' hr hr' ih ih' =>
  intro hc hf
  simp only [V.closed,Bool.and_eq_true] at hc
  simp only [V.fresh,Bool.and_eq_true] at hf
  exact .fn f first caps us ws hl hl' (fun j c hj=>ih j c hj (closedL_all hc.1 j c hj) (freshL_all hf.1 j c hj)) (fun j c hj=>ih' j c hj (closedL_all hc.2 j c hj) (freshL_all hf.2 j c hj))
inductive RV where
 |t (n:Nat)
 |c (agg:Bool) (k:Nat) (n:Nat)
def RV.ev (st:St):RV->V
 |.t n=>st.env n
 |.c agg k n=>match st.env n with
  |.ptr r off=>match st.heap r with|.box cs=>if off+k<=cs.length then pickc agg k off cs else .tup []|_=>.tup []
  |_=>.tup []
def okRV (P:Program):RV->ResultVar->Bool
 |.t n,.tmp m=>n == m
 |.c agg k n,.cell a t=>n == a&&szOk P t k&&rowOk P t agg&&(agg||k == 1)
 |_,_=>false
def okRVs (P:Program):List RV->List ResultVar->Bool
 |[],[]=>true
 |x::l,y::m=>okRV P x y&&okRVs P l m
 |_,_=>false
def resG (st:St):V->V
 |.agg cs=>.agg (cs.map (giveC st))
 |v=>giveC st v
def V.notTup:V->Bool
 |.tup _=>false
 |_=>true
def pack:List V->V
 |[v]=>v
 |vs=>.tup vs
def outV (st:St) (i:Nat):V->V
 |.io _=>match st.env i with
  |.ptr r 0=>match st.heap r with|.box cs'=>.io (cs'.map (giveC st))|_=>.undef
  |_=>.undef
 |_=>.undef
def outL (st:St):Nat->List V->List V
 |_,[]=>[]
 |i,v::l=>outV st i v::outL st (i+1) l
def outOk (st:St) (i:Nat):V->Bool
 |.io cs=>match st.env i with
  |.ptr r 0=>match st.heap r with|.box cs'=>cs'.length == cs.length&&cs'.all (fun c=>okGood (fun _=>true) (giveC st c))|_=>false
  |_=>false
 |_=>true
def outNames (st:St) (i:Nat):V->List Nat
 |.io _=>match st.env i with
  |.ptr r _=>match st.heap r with|.box cs'=>cs'.flatMap objC|_=>[]
  |_=>[]
 |_=>[]
def outBox (st:St) (i:Nat):V->List Nat
 |.io _=>match st.env i with
  |.ptr r _=>[r]
  |_=>[]
 |_=>[]
def outAll (f:Nat->V->Bool):Nat->List V->Bool
 |_,[]=>true
 |i,v::l=>f i v&&outAll f (i+1) l
def outCat (f:Nat->V->List Nat):Nat->List V->List Nat
 |_,[]=>[]
 |i,v::l=>f i v ++ outCat f (i+1) l
structure Leave (args:List V) (rvs:List RV) (res:V) (outs:List V) (fr:Bool) (st:St):Prop where
 res:res=pack (rvs.map fun r=>resG st (r.ev st))
 outs:outs=outL st 0 args
 ok:(rvs.all fun r=>(r.ev st).notTup&&(r.ev st).cells.all fun c=>okGood (fun v=>!fr||v.fresh) (giveC st c))=true
 oks:outAll (outOk st) 0 args=true
 nodup:nodupB ((rvs.flatMap fun r=>(r.ev st).cells.flatMap objC) ++ (outCat (outNames st) 0 args ++ outCat (outBox st) 0 args))=true
end Go.Ab

namespace Go.Ab
open Go
variable {E:Ent} {n:Sz} {C:Ctx} {st:St} {a:Act} {P:Program}
theorem okRVs_get:∀ {l:List RV} {m:List ResultVar},okRVs P l m=true->l.length=m.length/\∀ (i:Nat) (r:RV),l[i]?=some r->∃ x,m[i]?=some x/\okRV P r x=true
 |[],[],_=>⟨rfl,fun i r hi=>by simp at hi⟩
 |[],_::_,h=>by simp [okRVs] at h
 |_::_,[],h=>by simp [okRVs] at h
 |x::l,y::m,h=>by
  simp only [okRVs,Bool.and_eq_true] at h
  obtain ⟨h1,h2⟩:=okRVs_get h.2
  refine ⟨by simp [h1],fun i r hi=>?_⟩
  cases i with
  |zero=>simp at hi; subst hi; exact ⟨y,rfl,h.1⟩
  |succ i=>simpa using h2 i r (by simpa using hi)
def rvRun (P:Program) (tmps:Array Value) (w:World) (x:ResultVar) (u:Value):Prop :=
 (match x with
  |.tmp t=>(pure (tmps.getD t undef):Sem Value)
  |.cell a t=>do loadVar t (<- asAddr (tmps.getD a undef))).run P w=.ok u w
theorem rv_run (h : Inv E n C st a) {r:RV} {x:ResultVar} (hok:okRV P r x=true) (hv:(r.ev st).notTup=true):∃ u,rvRun P a.tmps C.w x u/\R C (r.ev st) u:=by
 unfold okRV at hok
 split at hok
 ·rename_i k m
  simp only [beq_iff_eq] at hok
  subst hok
  exact ⟨_,rfl,h.env k⟩
 ·rename_i agg k m ad t
  simp only [Bool.and_eq_true,beq_iff_eq] at hok
  obtain ⟨⟨⟨rfl,hs⟩,hr⟩,ha⟩:=hok
  have hR:=h.env m
  simp only [RV.ev] at hv ⊢
  cases he:st.env m with
  |ptr r off =>
   rw [he] at hR
   simp only [he] at hv ⊢
   cases hh:st.heap r with
   |box cs =>
    simp only [hh] at hv ⊢
    by_cases hl:off+k<=cs.length
    ·simp only [hl,if_true] at hv ⊢
     generalize hu:a.tmps.getD m undef=u at hR
     cases hR with
     |ptr _ _ cs' L q1 q2 =>
      have hC:C.heap r=.box cs:=by rw [h.heap]; exact hh
      rw [hC] at q1; cases q1
      have ho:=h.objs r
      unfold ObjOk at ho
      rw [hC] at ho
      obtain ⟨L',hl',⟨cur,e,g,g2,g3⟩,_⟩:=ho
      rw [q2] at hl'; cases hl'
      have hview:View C L.blk (L.base+off) ((cs.drop off).take k):=by
       refine view_of hl (fun j=>g j) fun j c hj=>?_
       obtain ⟨a1,a2,a3⟩:=g3 j c hj
       exact ⟨by rw [cell_of_row _ _ _ _ _ _ g2]; exact a1,a2,a3⟩
      obtain ⟨u,h1,h2⟩:=run_loadAt hs hr ha (by simp; omega) hview
      refine ⟨u,?_,?_⟩
      ·unfold rvRun
       simp only [hu]
       simpa [Instr.loadAt,Instr.sureAddr,asAddr] using h1
      ·cases agg with
       |true=>simpa [pickc] using h2
       |false =>
        have hk:k=1:=by simpa using ha
        subst hk
        have:((cs.drop off).take 1).getD 0 .undef=cs.getD off .undef:=by
         simp [List.getD,List.getElem?_take,List.getElem?_drop]
        simp only [Bool.false_eq_true,if_false] at h2
        rw [this] at h2
        simpa [pickc] using h2
    ·simp [hl,V.notTup] at hv
   |_=>simp [hh,V.notTup] at hv
  |_=>simp [he,V.notTup] at hv
 ·cases hok
theorem run_mapM_at {β:Type} {w:World} (z:Value) (f:β->Sem Value):∀ (l:List β) (us:List Value),l.length=us.length->(∀ (i:Nat) x,l[i]?=some x->(f x).run P w=.ok (us.getD i z) w)->(l.mapM f).run P w=.ok us w
 |[],[],_,_=>by simp
 |[],_::_,h,_=>by simp at h
 |_::_,[],h,_=>by simp at h
 |x::l,u::us,h,hr=>by
  have h1:(f x).run P w=.ok u w:=by simpa using hr 0 x rfl
  have h2:=run_mapM_at z f l us (by simpa using h) (fun i x hi=>by simpa using hr (i+1) x (by simpa using hi))
  rw [List.mapM_cons,Sem.run_bind,h1]
  show Sem.run P _ w=_
  rw [Sem.run_bind,h2]
  rfl
theorem run_results' {fn:Func} {tmps:Array Value} {w:World} {us:List Value} (hl:fn.results.toList.length=us.length) (hr:∀ (i:Nat) x,fn.results.toList[i]?=some x->rvRun P tmps w x (us.getD i undef)) :
  (results fn tmps).run P w=.ok (if us.length=1 then us.getD 0 undef else .tuple us.toArray) w:=by
 unfold results
 rw [Sem.run_bind,<- Array.toArray_toList (xs:=fn.results),List.mapM_toArray,Sem.run_map,run_mapM_at undef _ fn.results.toList us hl (fun i x hi=>by
  have:=hr i x hi
  unfold rvRun at this
  cases x <;> exact this)]
 show Sem.run P (pure _) w=_
 by_cases h:us.length=1
 ·obtain ⟨u,rfl⟩:=List.length_eq_one_iff.1 h
  rfl
 ·simp [h]
end Go.Ab

namespace Go.Ab
open Go
variable {E:Ent} {n:Sz} {C:Ctx} {st:St} {a:Act} {P:Program}
theorem list_choose {α β:Type} (z:β):∀ (l:List α) (p:Nat->α->β->Prop),(∀ (i:Nat) r,l[i]?=some r->∃ u,p i r u)->∃ us:List β,us.length=l.length/\∀ (i:Nat) r,l[i]?=some r->p i r (us.getD i z)
 |[],_,_=>⟨[],rfl,fun i r hi=>by simp at hi⟩
 |x::l,p,h=>by
  obtain ⟨u,hu⟩:=h 0 x rfl
  obtain ⟨us,h1,h2⟩:=list_choose z l (fun i=>p (i+1)) fun i r hi=>h (i+1) r (by simpa using hi)
  refine ⟨u::us,by simp [h1],fun i r hi=>?_⟩
  cases i with
  |zero=>simp at hi; subst hi; simpa using hu
  |succ i=>simpa using h2 i r (by simpa using hi)
theorem objC_live {good:V->Bool} {cs:List V} (h:∀ c∈cs,okGood good (giveC st c)=true):∀ r∈cs.flatMap objC,(∃ s rs,st.heap r=.rows s rs)\/∃ ks vs,st.heap r=.mp ks vs:=by
 intro r hr
 obtain ⟨c,hc,hr⟩:=List.mem_flatMap.1 hr
 exact give_live' (h c hc) r hr
theorem res_good (h:Inv E n C st a) {B:Ctx} {good:V->Bool} (hw:B.w=C.w) (hcl:∀ c u,R C c u->c.closed=true->good c=true->R B c u) {v:V} {u:Value} (hR:R C v u)
  (hok:(v.notTup&&v.cells.all fun c=>okGood good (giveC st c))=true) :
  RB2 B (resG st v) u/\(∀ vs,resG st v≠.tup vs)/\(owns2 (resG st v) u).Sublist ((v.cells.flatMap objC).filterMap (blkOf C)):=by
 simp only [Bool.and_eq_true,List.all_eq_true] at hok
 obtain ⟨hnt,hall⟩:=hok
 by_cases hv:∃ cs,v=.agg cs
 ·obtain ⟨cs,rfl⟩:=hv
  cases hR with
  |agg _ us hl h1 hr =>
   have hg:∀ (j:Nat) (c:V),cs[j]?=some c->Given C B (giveC st c) (us.getD j undef) (objC c):=fun j c hj=>give_good h hw hcl (hr j c hj) (hall c (by simpa [V.cells] using List.mem_of_getElem? hj))
   refine ⟨⟨us,rfl,by simpa using hl,h1,fun j c hj=>?_⟩,(fun vs e=>by simp [resG] at e),?_⟩
   ·simp only [List.getElem?_map,Option.map_eq_some_iff] at hj
    obtain ⟨c',h2,rfl⟩:=hj
    exact (hg j c' h2).r
   ·simp only [resG,owns2,V.cells]
    exact ownsL_give cs us (giveC st) hl fun j c hj=>(hg j c hj).owns
 ·have hne:∀ cs,v≠.agg cs:=fun cs e=>hv ⟨cs,e⟩
  have ec:=val_cells hne
  rw [ec] at hall ⊢
  have hok:=hall v (by simp)
  have er:resG st v=giveC st v:=by unfold resG; split <;> first|exact absurd rfl (hne _)|rfl
  obtain ⟨g1,g2⟩:=give_good h hw hcl hR hok
  have n1:(∀ cs,giveC st v≠.agg cs)/\∀ vs,giveC st v≠.tup vs:=by
   by_cases hm:∃ ks vs,giveC st v=.ownm ks vs
   ·obtain ⟨ks,vs,hm⟩:=hm
    rw [hm]
    exact ⟨fun _ e=>(by cases e),fun _ e=>(by cases e)⟩
   by_cases ho:∃ s rows,giveC st v=.own s rows
   ·obtain ⟨s,rows,ho⟩:=ho
    rw [ho]
    exact ⟨fun _ e=>(by cases e),fun _ e=>(by cases e)⟩
   ·obtain ⟨_,_,q1,q2⟩:=okGood_other hok (fun s rows e=>ho ⟨s,rows,e⟩) fun s rows e=>hm ⟨s,rows,e⟩
    exact ⟨q2,q1⟩
  rw [er]
  refine ⟨by rw [RB2_other n1.1]; exact g1,n1.2,?_⟩
  rw [owns2_other n1.1]
  simpa using g2
theorem pack_good {B:Ctx}:∀ (l:List V) (us:List Value),l.length=us.length->(∀ (i:Nat) v,l[i]?=some v->RB2 B v (us.getD i undef)/\∀ vs,v≠.tup vs) ->
  RB B (pack l) (if us.length=1 then us.getD 0 undef else .tuple us.toArray)/\ownsR (pack l) (if us.length=1 then us.getD 0 undef else .tuple us.toArray)=ownsT2 l us:=by
 intro l us hl h
 by_cases h1:us.length=1
 ·obtain ⟨u,rfl⟩:=List.length_eq_one_iff.1 h1
  obtain ⟨v,rfl⟩:=List.length_eq_one_iff.1 (hl.trans h1)
  obtain ⟨q1,q2⟩:=h 0 v rfl
  simp only [List.length_singleton,if_true,List.getD_cons_zero,pack] at q1 ⊢
  have e1:RB B v u=RB2 B v u:=by unfold RB; split <;> first|exact absurd rfl (q2 _)|rfl
  have e2:ownsR v u=owns2 v u:=by unfold ownsR; split <;> first|exact absurd rfl (q2 _)|rfl
  rw [e1,e2]
  exact ⟨q1,by simp [ownsT2]⟩
 ·rw [if_neg h1]
  have e:pack l=.tup l:=by
   cases l with
   |nil=>rfl
   |cons v l=>cases l with
    |nil=>simp at hl; omega
    |cons _ _=>rfl
  rw [e]
  exact ⟨⟨us,rfl,hl,fun j c hj=>(h j c hj).1⟩,by simp [ownsR]⟩
theorem ownsT2_sub:∀ (vs:List V) (us:List Value) (f:V->V) (g:V->List Nat),vs.length=us.length->(∀ (i:Nat) v,vs[i]?=some v->(owns2 (f v) (us.getD i undef)).Sublist ((g v).filterMap (blkOf C))) ->
  (ownsT2 (vs.map f) us).Sublist ((vs.flatMap g).filterMap (blkOf C))
 |[],[],_,_,_,_=>by simp [ownsT2]
 |[],_::_,_,_,h,_=>by simp at h
 |_::_,[],_,_,h,_=>by simp at h
 |v::vs,u::us,f,g,h,hr=>by
  simp only [List.map_cons,ownsT2,List.flatMap_cons,List.filterMap_append]
  exact List.Sublist.append (by simpa using hr 0 v rfl) (ownsT2_sub vs us f g (by simpa using h) fun i v hi=>by simpa using hr (i+1) v (by simpa using hi))
structure Outs (C B:Ctx) (st:St) (i:Nat) (l:List V) (us:List Value):Prop where
 len:(outL st i l).length=l.length
 r:∀ (j:Nat) o,(outL st i l)[j]?=some o->RA B o (us.getD j undef)
 box:listA boxA (outL st i l) us=listA boxA l us
 rng:∀ b off,anyC (outL st i l) us b off↔anyC l us b off
 owns:(listA (ownsA C.w) (outL st i l) us).Sublist ((outCat (outNames st) i l).filterMap (blkOf C))
 boxes:(listA boxA l us).Sublist ((outCat (outBox st) i l).filterMap (blkOf C))
 live:∀ r∈outCat (outNames st) i l,(∃ s rs,st.heap r=.rows s rs)\/∃ ks vs,st.heap r=.mp ks vs
 liveB:∀ r∈outCat (outBox st) i l,∃ cs,st.heap r=.box cs
theorem outs_sound (h:Inv E n C st a) {B:Ctx} (hw:B.w=C.w) (hcl:∀ c u,R C c u->c.closed=true->R B c u):∀ (l:List V) (us:List Value) (i:Nat),l.length=us.length ->
  (∀ (j:Nat) cs,l[j]?=some (.io cs)->a.tmps.getD (i+j) undef=us.getD j undef)->outAll (outOk st) i l=true->Outs C B st i l us
 |[],[],i,_,_,_=>⟨rfl,fun j o hj=>by simp [outL] at hj,rfl,fun _ _=>Iff.rfl,by simp [outL,listA],by simp [listA],fun r hr=>by simp [outCat] at hr,fun r hr=>by simp [outCat] at hr⟩
 |[],_::_,_,hl,_,_=>by simp at hl
 |_::_,[],_,hl,_,_=>by simp at hl
 |v :: l, u :: us,i,hl,hp,hok=>by
  simp only [outAll,Bool.and_eq_true] at hok
  have ih:=outs_sound h hw hcl l us (i+1) (by simpa using hl) (fun j cs hj=>by have:=hp (j+1) cs (by simpa using hj); rw [show i+1+j=i+(j+1) by omega]; simpa using this) hok.2
  suffices hd:RA B (outV st i v) u/\boxA (outV st i v) u=boxA v u/\(∀ b off,boxC (outV st i v) u b off↔boxC v u b off)/\(ownsA C.w (outV st i v) u).Sublist ((outNames st i v).filterMap (blkOf C)) /\
    (boxA v u).Sublist ((outBox st i v).filterMap (blkOf C))/\(∀ r∈outNames st i v,(∃ s rs,st.heap r=.rows s rs)\/∃ ks vs,st.heap r=.mp ks vs)/\(∀ r∈outBox st i v,∃ cs,st.heap r=.box cs) by
   obtain ⟨d1,d2,d3,d4,d5,d6,d7⟩:=hd
   refine ⟨by simp [outL,ih.len],fun j o hj=>?_,by simp only [outL,listA]; rw [d2,ih.box],fun b off=>by simp only [outL,anyC]; rw [d3,ih.rng],?_,?_,fun r hr=>?_,fun r hr=>?_⟩
   ·cases j with
    |zero=>simp only [outL,List.getElem?_cons_zero,Option.some.injEq] at hj; subst hj; simpa using d1
    |succ j=>simpa using ih.r j o (by simpa [outL] using hj)
   ·simp only [outL,listA,outCat,List.filterMap_append]; exact d4.append ih.owns
   ·simp only [listA,outCat,List.filterMap_append]; exact d5.append ih.boxes
   ·simp only [outCat,List.mem_append] at hr; exact hr.elim (d6 r) (ih.live r)
   ·simp only [outCat,List.mem_append] at hr; exact hr.elim (d7 r) (ih.liveB r)
  by_cases hv:∃ cs,v=.io cs
  ·obtain ⟨cs,rfl⟩:=hv
   have hok1:=hok.1
   have hpar:=hp 0 cs rfl
   simp only [Nat.add_zero,List.getD_cons_zero] at hpar
   simp only [outOk] at hok1
   have hR:=h.env i
   rw [hpar] at hR
   cases he:st.env i with
   |ptr r off =>
    simp only [he] at hok1
    cases off with
    |succ off=>simp at hok1
    |zero =>
     simp only at hok1
     cases hh:st.heap r with
     |box cs' =>
      simp only [hh,Bool.and_eq_true,beq_iff_eq,List.all_eq_true] at hok1
      obtain ⟨hlen,hall⟩:=hok1
      rw [he] at hR
      have hC:C.heap r=.box cs':=by rw [h.heap]; exact hh
      cases hR with
      |ptr _ _ cs2 L q1 q2 =>
       rw [hC] at q1; cases q1
       have ho:=h.objs r
       unfold ObjOk at ho
       rw [hC] at ho
       obtain ⟨L',hl',⟨cur,e,g,g2,g3⟩,_⟩:=ho
       rw [q2] at hl'; cases hl'
       have e1:outV st i (.io cs)=.io (cs'.map (giveC st)):=by simp [outV,he,hh]
       have e2:outNames st i (.io cs)=cs'.flatMap objC:=by simp [outNames,he,hh]
       have e3:outBox st i (.io cs)=[r]:=by simp [outBox,he]
       rw [e1,e2,e3]
       have hg:∀ (j:Nat) (c:V),cs'[j]?=some c->Given C B (giveC st c) (g j) (objC c):=fun j c hj=>give_good h hw (fun c u hr hc _=>hcl c u hr hc) (g3 j c hj).2.2 (hall c (List.mem_of_getElem? hj))
       refine ⟨⟨L.blk,L.base+0,cur,e,g,rfl,by rw [hw]; exact g2,fun j c hj=>?_⟩,rfl,fun b off=>by simp [boxC,hlen],?_,by simp [boxA,blkOf_some q2],objC_live hall,fun r' hr'=>by simp at hr'; subst hr'; exact ⟨cs',hh⟩⟩
       ·simp only [List.getElem?_map,Option.map_eq_some_iff] at hj
        obtain ⟨c',h1,rfl⟩:=hj
        exact ⟨(g3 j c' h1).1,(g3 j c' h1).2.1,(hg j c' h1).r⟩
       ·show (ownsL (cs'.map (giveC st)) (cellsAt C.w L.blk (L.base+0) (cs'.map (giveC st)).length)).Sublist _
        refine ownsL_give cs' _ (giveC st) (by rw [cellsAt_len,List.length_map]) fun j c hj=>?_
        have hj':=(List.getElem?_eq_some_iff.1 hj).1
        rw [cellsAt_get _ _ _ _ _ (by simpa using hj'),cell_of_row _ _ _ _ _ _ g2,Nat.add_zero,(g3 j c hj).1]
        exact (hg j c hj).owns
     |_=>simp [hh] at hok1
   |_=>simp [he] at hok1
  ·have hne:∀ cs,v≠.io cs:=fun cs e=>hv ⟨cs,e⟩
   have e1:outV st i v=.undef:=by unfold outV; split <;> first|exact absurd rfl (hne _)|rfl
   have e2:outNames st i v=[]:=by unfold outNames; split <;> first|exact absurd rfl (hne _)|rfl
   have e3:outBox st i v=[]:=by unfold outBox; split <;> first|exact absurd rfl (hne _)|rfl
   rw [e1,e2,e3,boxA_other hne]
   exact ⟨.undef _,by simp [boxA],fun b off=>⟨fun hx=>(boxC_other (fun cs e=>by cases e) hx).elim,fun hx=>(boxC_other hne hx).elim⟩,by simp [ownsA,owns1],by simp,fun r hr=>by simp at hr,fun r hr=>by simp at hr⟩
end Go.Ab

namespace Go.Ab
open Go
variable {P:Program}
theorem RA_shG {C:Ctx} {v:V} {u:Value} (h:RA C v u) (G':Nat->Prop):RA { C with G:=G' } v.sh u:=by
 by_cases hv:∃ cs,v=.io cs
 ·obtain ⟨cs,rfl⟩:=hv
  obtain ⟨b,base,cur,e,g,h1,h2,h3⟩:=h
  simp only [V.sh,shL_eq]
  refine ⟨b,base,cur,e,g,h1,h2,fun j c hj=>?_⟩
  simp only [List.getElem?_map,Option.map_eq_some_iff] at hj
  obtain ⟨c',q1,rfl⟩:=hj
  exact ⟨(h3 j c' q1).1,(h3 j c' q1).2.1,RB1_shG (h3 j c' q1).2.2 G'⟩
 ·have hne:∀ cs,v≠.io cs:=fun cs e=>hv ⟨cs,e⟩
  have hne':∀ cs,v.sh≠.io cs:=fun cs e=>by
   cases v <;> simp only [V.sh] at e <;> first|exact hne _ rfl|cases e
  rw [RA_other hne] at h
  rw [RA_other hne']
  exact RB1_shG h G'
theorem anyC_at:∀ (l:List V) (us:List Value) (i:Nat) {cs:List V} {b base:Nat},l[i]?=some (.io cs)->us.getD i undef=.pointer (some ⟨b,base,none⟩) ->
  b∈listA boxA l us/\∀ j,j < cs.length->anyC l us b (base+j)
 |[],_,i,_,_,_,h,_=>by simp at h
 |_::_,[],i,_,_,_,_,h=>by simp [List.getD,undef] at h
 |v :: l,u::us,i,cs,b,base,h1,h2=>by
  cases i with
  |zero =>
   simp only [List.getElem?_cons_zero,Option.some.injEq] at h1
   simp only [List.getD_cons_zero] at h2
   subst h1 h2
   exact ⟨List.mem_append_left _ (by simp [boxA]),fun j hj=>.inl (by simp [boxC,hj])⟩
  |succ i =>
   obtain ⟨q1,q2⟩:=anyC_at l us i (by simpa using h1) (by simpa using h2)
   exact ⟨List.mem_append_right _ q1,fun j hj=>.inr (q2 j hj)⟩
def V.noMap:V->Bool
 |.ownm _ _=>false
 |.io cs=>cs.all fun c=>match c with|.ownm _ _=>false|_=>true
 |_=>true
theorem own_cells {C:Ctx} {c:V} {u:Value} (hc:(match c with|.ownm _ _=>false|_=>true)=true) (hR:RB1 C c u):∀ b∈owns1 c u,∀ es clock,C.w.heap[b]?≠some (.map es clock):=by
 intro b hb es clock hm
 by_cases hv:∃ s rows,c=.own s rows
 ·obtain ⟨s,rows,rfl⟩:=hv
  rcases hR with ⟨_,rfl⟩|⟨_,b',off,rfl⟩|⟨b',cap,cur,e,g,rfl,h0,h1,h2,h3,_⟩
  ·simp [owns1] at hb
  ·simp [owns1] at hb
  ·have:cap≠0:=by omega
   simp only [owns1,this,if_false,List.mem_singleton] at hb
   subst hb
   rw [h3] at hm; cases hm
 ·rw [owns1_other (fun s rows e=>hv ⟨s,rows,e⟩) (fun ks vs e=>by subst e; simp at hc)] at hb
  cases hb
theorem owns_cells {C:Ctx}:∀ {cs:List V} {us:List Value},(cs.all fun c=>match c with|.ownm _ _=>false|_=>true)=true->(∀ (j:Nat) (c:V),cs[j]?=some c->RB1 C c (us.getD j undef))->∀ b∈ownsL cs us,∀ es clock,C.w.heap[b]?≠some (.map es clock)
 |[],us,_,_,b,hb=>by cases us <;> simp [ownsL] at hb
 |c::cs,[],_,_,b,hb=>by simp [ownsL] at hb
 |c::cs,u::us,hc,hR,b,hb=>by
  simp only [List.all_cons,Bool.and_eq_true] at hc
  simp only [ownsL,List.mem_append] at hb
  rcases hb with hb|hb
  ·exact own_cells hc.1 (hR 0 c rfl) b hb
  ·exact owns_cells hc.2 (fun j c hj=>by simpa using hR (j+1) c (by simpa using hj)) b hb
theorem writable_cells {w:World} {F:Nat->Nat->Prop} {G:Nat->Prop}:∀ {args:List V} {vs:List Value},args.all V.noMap=true->(∀ (i:Nat) (a:V),args[i]?=some a->RA (bare w F G) a (vs.getD i undef)) ->
  ∀ {b off},writable w args vs b off->∀ es clock,w.heap[b]?≠some (.map es clock)
 |[],vs,_,_,b,off,hw=>by rcases hw with hw|hw <;> cases vs <;> simp [listA,anyC] at hw
 |a::args,[],_,_,b,off,hw=>by rcases hw with hw|hw <;> simp [listA,anyC] at hw
 |a :: args,v::vs,hn,hR,b,off,hw=>by
  simp only [List.all_cons,Bool.and_eq_true] at hn
  have h0:=hR 0 a rfl
  simp only [List.getD_cons_zero] at h0
  have ih:writable w args vs b off->∀ es clock,w.heap[b]?≠some (.map es clock):=writable_cells hn.2 fun i a hi=>by simpa using hR (i+1) a (by simpa using hi)
  by_cases hio:∃ cs,a=.io cs
  ·obtain ⟨cs,rfl⟩:=hio
   obtain ⟨b0,base,cur,e,g,rfl,h2,h3⟩:=h0
   rcases hw with hw|hw
   ·simp only [listA,List.mem_append] at hw
    rcases hw with hw|hw
    ·refine owns_cells (C:=bare w F G) hn.1 (fun j c hj=>?_) b hw
     obtain ⟨a1,a2,a3⟩:=h3 j c hj
     have hlt:=(List.getElem?_eq_some_iff.1 hj).1
     have h2':w.heap[b0]?=some (.cells cur e (0,0)):=h2
     rw [cellsAt_get _ _ _ _ _ hlt,cell_of_row _ _ _ _ _ _ h2',a1]
     exact a3
    ·exact ih (.inl hw)
   ·rcases hw with hw|hw
    ·simp only [boxC] at hw
     obtain ⟨hb,_⟩:=hw
     intro es clock hm
     have h2':w.heap[b0]?=some (.cells cur e (0,0)):=h2
     rw [hb,h2'] at hm; cases hm
    ·exact ih (.inr hw)
  ·have hne:∀ cs,a≠.io cs:=fun cs e=>hio ⟨cs,e⟩
   rw [RA_other hne] at h0
   rcases hw with hw|hw
   ·simp only [listA,List.mem_append] at hw
    rcases hw with hw|hw
    ·rw [ownsA_other hne] at hw
     refine own_cells (C:=bare w F G) ?_ h0 b hw
     have:=hn.1
     cases a <;> simp [V.noMap] at this ⊢
    ·exact ih (.inl hw)
   ·rcases hw with hw|hw
    ·exact absurd hw (boxC_other hne)
    ·exact ih (.inr hw)
theorem leaves_marks {E:Ent} {n:Sz} {f:Go.Fence} {m:Nat} {fn:Func} {tmps:Array Value} {Rr:Ending->World->Prop} (hE:E.wk.heap.size=0):∀ (ds:List Deferred) {C:Ctx} {st:St} {a:Act},a.defers=ds->Inv E n C st a ->
  (∀ (C':Ctx),Inv E n C' st { a with defers:=[] }->∃ v,(results fn tmps).run P C'.w=.ok v C'.w/\Rr (.returned v) C'.w)->LeavesInM f m P fn tmps Rr ds .returning C.w
 |[],C,st,a,hd,hi,hk=>hk C (by
   have:({ a with defers:=[] }:Act)=a:=by cases a; simp only at hd; subst hd; rfl
   rw [this]; exact hi)
 |d :: ds,C,st,a,hd,hi,hk=>by
  obtain ⟨D,rfl,hb,hD⟩:=hi.marks d (by rw [hd]; simp)
  have hnd:=hi.mnd
  rw [hd] at hnd
  have hodd:=hi.odd (Y:=C.w.putObj D (.deferred none)) (row:=some D) (ds:=ds) (grownBy_putObj' _ _ _) (fun r e=>by cases e; exact ⟨_,hb,rfl⟩) (fun r e es clk h=>by cases e; rw [hb] at h; cases h)
   (fun r e=>by cases e; exact hD) (by rw [hd]; exact List.sublist_cons_self _ _) (fun r e hm=>by cases e; exact (List.nodup_cons.1 hnd).1 hm) (fun r e o _ ho=>by have:=block_lt (w:=E.wk) ho; omega)
  exact ⟨by simp,.inl ⟨D,_,rfl,run_takeDeferred hb,leaves_marks hE ds rfl hodd hk⟩⟩
theorem callsV_of (hD:RegD P) {f:FuncId} {fn:Func} {code:Code} (hf:P.funcs[f]?=some fn) (hb:fn.body=some code) {c:Go.Ab.C} {pins ns:List Nat} {args:List V} {rvs:List RV} {res:V} {outs:List V} {fr:Bool}
  (hok:okC P ⟨fn.ntmps,pins,false⟩ c code=true) (hrv:okRVs P rvs fn.results.toList=true) (hlen:args.length<=fn.ntmps) (hpins:∀ i∈pins,i < args.length) (hio:∀ (i:Nat) cs,args[i]?=some (.io cs)->i∈pins)
  (hsh:args.map V.sh=args) (hnm:args.all V.noMap=true) (hns:ns.Nodup)
  (hwp:wpC P c (St.enter args ns) fun e st=>(e=.normal\/e=.ret)/\Leave args rvs res outs fr st):CallsV P f args res outs fr:=by
 intro w F G vs hl hra hnd hG hB hGn hF
 let G0:Nat->Prop:=fun b=>w.heap.size<=b\/b∈listA (ownsA w) args vs
 let E:Ent:={ w0:=w,Wr:=writable w args vs,F0:=F,G0:=G0,pars:=vs,wr:=fun b off hb=>writable_cells hnm hra hb,wk:={ w with heap:=#[] },Fk:=fun _ _=>False,Mb:=fun _=>True,fk:=fun _ _ hf=>hf.elim }
 let n:Sz:=⟨fn.ntmps,pins,false⟩
 let a:Act:={ tmps:=vs.toArray ++ Array.replicate (fn.ntmps - vs.length) undef,defers:=[] }
 have hG0:∀ b,G0 b->G b:=fun b hb=>hb.elim (hGn b) (hG b)
 have atmp:∀ i,i < vs.length->a.tmps.getD i undef=vs.getD i undef:=fun i hi=>by
  simp [a,Array.getD_eq_getD_getElem?,Array.getElem?_append,hi]
 have i0:Inv E n (bare w F G0) St.first a :=
  {
   heap:=rfl,env:=fun t=>.undef _,objs:=fun r=>by unfold ObjOk; trivial
   inj:=fun r r' L L' h1=>by cases h1
   fin:=fun b off hf=>(hF b off hf).1
   gnew:=fun b hb=>.inl hb
   frame:=⟨rfl,rfl,rfl,Nat.le_refl _,fun b _=>sameBut_refl _⟩
   marks:=fun d hd=>by simp [a] at hd
   mnd:=List.nodup_nil
   fkeep:=fun b off hf=>hf.elim
   stay:=fun b o _ hb=>by simp [E] at hb
   mball:=fun _ _=>trivial
   wsz:=Nat.zero_le _
   size:=by simp [a,n]; omega
   par:=fun i hi=>atmp i (by rw [<- hl]; exact hpins i hi)
   fnew:=fun b off hf=>.inl hf,gsub:=fun b hb=>hb }
 have hra0:∀ (j:Nat) (c:V),args[j]?=some c->RA (bare w F G0) c (vs.getD j undef):=fun j c hj=>by
  have h1:=RA_shG (hra j c hj) G0
  have h2:c.sh=c:=by
   have:(args.map V.sh)[j]?=some c.sh:=by simp [hj]
   rw [hsh,hj] at this
   exact (Option.some.inj this).symm
  rw [h2] at h1
  exact h1
 obtain ⟨C',os,bg,l1,r1⟩:=enterL_sound args vs ns i0 hl hra0
  (fun b hb=>⟨fun off hf=>(hF b off hf).2 (.inl hb),.inr hb,fun off=>.inr (.inl hb),fun r L h1=>by cases h1⟩) hnd
  (fun i cs hi=>by
   obtain ⟨b,base,cur,e,g,h1,h2,h3⟩:=hra i _ hi
   obtain ⟨q1,q2⟩:=anyC_at args vs i hi h1
   refine ⟨b,base,h1,.inr fun hg=>?_,fun j hj=>⟨fun hf=>(hF b _ hf).2 (.inr (q2 j hj)),.inr (q2 j hj)⟩,fun r L h1=>by cases h1⟩
   rcases hg with hg|hg
   ·exact absurd (block_lt h2) (Nat.not_lt.2 hg)
   ·exact (List.nodup_append.1 hnd).2.2 b hg b q1 rfl) hns (fun r _=>rfl) (fun _=>trivial)
 have i1 : Inv E n C' (St.enter args ns) a :=
  {
   bg.inv with
   heap:=bg.inv.heap
   env := fun t=>by
    show R C' ((enterL args ns).1.getD t .undef) _
    by_cases ht:t < vs.length
    ·have hj:(enterL args ns).1[t]?=some ((enterL args ns).1[t]'(by omega)):=by simp
     have:=r1 t _ hj
     rw [atmp t ht]
     simpa [List.getD,hj] using this
    ·have:(enterL args ns).1[t]?=none:=by simp; omega
     simp only [List.getD,this,Option.getD_none]
     exact .undef _ }
 have hw:C'.w=w:=bg.w
 have key:code.wp P (bodyPostM Fence.wide 5 P fn fun e w'=>∃ (v:Value) (Fr:Nat->Nat->Prop),e=.returned v/\Post w F G args vs res outs fr v Fr w') a C'.w:=by
  refine wpC_sound hD c code hok i1 hwp fun e C0 st a0 i0 hq=>?_
  obtain ⟨he,lv⟩:=hq
  suffices hfin:∀ (C2:Ctx),Inv E n C2 st { a0 with defers:=[] }->∃ v,(results fn a0.tmps).run P C2.w=.ok v C2.w/\∃ (v':Value) (Fr:Nat->Nat->Prop),Ending.returned v=.returned v'/\Post w F G args vs res outs fr v' Fr C2.w by
   rcases he with rfl|rfl <;> exact leaves_marks rfl _ rfl i0 hfin
  intro C2 i2
  obtain ⟨a2,ha2⟩ : ∃ a2:Act,a2={ a0 with defers:=[] }:=⟨_,rfl⟩
  rw [<- ha2] at i2
  have htm:a0.tmps=a2.tmps:=by rw [ha2]
  rw [htm]
  obtain ⟨q1,q2⟩:=okRVs_get hrv
  have lok:=lv.ok
  simp only [List.all_eq_true] at lok
  -- the results
  obtain ⟨us,u1,u2⟩:=list_choose undef rvs (fun i r u=>(∀ x,fn.results.toList[i]?=some x->rvRun P a2.tmps C2.w x u)/\R C2 (r.ev st) u) fun i r hi=>by
   obtain ⟨x,x1,x2⟩:=q2 i r hi
   have:=lok r (List.mem_of_getElem? hi)
   simp only [Bool.and_eq_true] at this
   obtain ⟨u,h1,h2⟩:=rv_run i2 x2 this.1
   exact ⟨u,fun x' hx'=>by rw [x1] at hx'; cases hx'; exact h1,h2⟩
  have hrun:=run_results' (P:=P) (fn:=fn) (tmps:=a2.tmps) (w:=C2.w) (us:=us) (by rw [u1,q1]) fun i x hi=>by
   have hlt:i < rvs.length:=by rw [q1]; exact (List.getElem?_eq_some_iff.1 hi).1
   exact (u2 i rvs[i] (by simp)).1 x hi
  refine ⟨_,hrun,_,fun b off=>C2.F b off/\C2.G b,rfl,?_⟩
  have gG:∀ b,C2.G b->G b:=fun b hb=>hG0 b (i2.gsub b hb)
  have hclR:∀ c u,R C2 c u->c.closed=true->(!fr||c.fresh)=true->R (bare C2.w (fun b off=>(fr=false/\F b off)\/(C2.F b off/\C2.G b)) G) c u:=fun c u hr hc hg=>by
   cases hfr:fr with
   |false =>
    exact R.of_closed (C:=C2) (C':=bare C2.w (fun b off=>(false=false/\F b off)\/(C2.F b off/\C2.G b)) G) (fun b off hf=>⟨(i2.fnew b off hf).elim (fun h=>Or.inl ⟨rfl,h⟩) (fun h=>Or.inr ⟨hf,h⟩),rfl⟩) gG hr hc
   |true =>
    rw [hfr] at hg
    exact R_fresh (C:=C2) (B:=bare C2.w (fun b off=>(true=false/\F b off)\/(C2.F b off/\C2.G b)) G) rfl (fun b off h1 h2=>Or.inr ⟨h1,h2⟩) gG hr hc (by simpa using hg)
  have hclO:∀ c u,R C2 c u->c.closed=true->R (bare C2.w (fun b off=>F b off\/(C2.F b off/\C2.G b)) G) c u:=fun c u hr hc =>
   R.of_closed (C:=C2) (C':=bare C2.w (fun b off=>F b off\/(C2.F b off/\C2.G b)) G) (fun b off hf=>⟨(i2.fnew b off hf).elim Or.inl (fun h=>Or.inr ⟨hf,h⟩),rfl⟩) gG hr hc
  have hres:∀ (i:Nat) r,rvs[i]?=some r->_:=fun i r hi=>res_good i2 (B:=bare C2.w (fun b off=>(fr=false/\F b off)\/(C2.F b off/\C2.G b)) G) rfl hclR (u2 i r hi).2 (lok r (List.mem_of_getElem? hi))
  obtain ⟨p1,p2⟩:=pack_good (B:=bare C2.w (fun b off=>(fr=false/\F b off)\/(C2.F b off/\C2.G b)) G) (rvs.map fun r=>resG st (r.ev st)) us (by simp [u1]) (fun i v hi=>by
   simp only [List.getElem?_map,Option.map_eq_some_iff] at hi
   obtain ⟨r,hr,rfl⟩:=hi
   exact ⟨(hres i r hr).1,(hres i r hr).2.1⟩)
  have sub1:(ownsT2 (rvs.map fun r=>resG st (r.ev st)) us).Sublist ((rvs.flatMap fun r=>(r.ev st).cells.flatMap objC).filterMap (blkOf C2)):=by
   have:=ownsT2_sub (C:=C2) (rvs.map fun r=>r.ev st) us (resG st) (fun v=>v.cells.flatMap objC) (by simp [u1]) (fun i v hi=>by
    simp only [List.getElem?_map,Option.map_eq_some_iff] at hi
    obtain ⟨r,hr,rfl⟩:=hi
    exact (hres i r hr).2.2)
   simpa [List.map_map,List.flatMap_map,Function.comp_def] using this
  have ho:=outs_sound i2 (B:=bare C2.w (fun b off=>F b off\/(C2.F b off/\C2.G b)) G) rfl hclO args vs 0 hl (fun j cs hj=>by
   have:=i2.par j (hio j cs hj)
   rw [Nat.zero_add]; exact this) lv.oks
  rw [lv.res,lv.outs]
  have live:∀ r∈(rvs.flatMap fun r=>(r.ev st).cells.flatMap objC) ++ outCat (outNames st) 0 args,(∃ s rs,st.heap r=.rows s rs)\/∃ ks vs,st.heap r=.mp ks vs:=fun r hr=>by
   rcases List.mem_append.1 hr with hr|hr
   ·obtain ⟨x,hx,hr⟩:=List.mem_flatMap.1 hr
    have:=lok x hx
    simp only [Bool.and_eq_true,List.all_eq_true] at this
    exact objC_live this.2 r hr
   ·exact ho.live r hr
  have hown:∀ b∈((rvs.flatMap fun r=>(r.ev st).cells.flatMap objC) ++ outCat (outNames st) 0 args).filterMap (blkOf C2),(∀ off,¬ C2.F b off)/\C2.G b:=fun b hb=>by
   obtain ⟨r,hr,h2⟩:=List.mem_filterMap.1 hb
   simp only [blkOf,Option.map_eq_some_iff] at h2
   obtain ⟨L,h3,rfl⟩:=h2
   rcases live r hr with ⟨s,rs,h5⟩|⟨ks,vs,h5⟩
   rotate_left
   ·have h6:C2.heap r=.mp ks vs:=by rw [i2.heap]; exact h5
    have hob:=i2.objs r
    unfold ObjOk at hob
    rw [h6] at hob
    obtain ⟨L',h7,_,h8,h9⟩:=hob
    rw [h3] at h7; cases h7
    exact ⟨h9.1,i2.gnew _ h8⟩
   have h6:C2.heap r=.rows s rs:=by rw [i2.heap]; exact h5
   have hob:=i2.objs r
   unfold ObjOk at hob
   rw [h6] at hob
   rcases hob with ⟨_,hob⟩|⟨L',h7,h8⟩
   ·rw [h3] at hob; cases hob
   ·rw [h3] at h7; cases h7
    exact ⟨fun off=>(h8.2.2.2.2.2.1 off).1,h8.2.2.2.2.2.2⟩
  exact {
    fresh:=fun b off hfr=>⟨i2.fin b off hfr.1,i2.gsub b hfr.2⟩
    rres:=p1
    len:=ho.len
    routs:=ho.r
    boxes:=ho.box
    ranges:=ho.rng
    nodup:=by
     rw [p2]
     refine List.Sublist.nodup (sub1.append (ho.owns.append ho.boxes)) ?_
     rw [<- List.filterMap_append,<- List.filterMap_append]
     refine names_nodup i2 (nodupB_iff lv.nodup) fun r hr=>?_
     rw [<- List.append_assoc] at hr
     rcases List.mem_append.1 hr with hr|hr
     ·rcases live r hr with ⟨s,rs,e⟩|⟨ks,vs,e⟩ <;> (rw [e]; rfl)
     ·obtain ⟨cs,e⟩:=ho.liveB r hr; rw [e]; rfl
    own := fun b hb=>by
     rw [p2] at hb
     have hm:b∈((rvs.flatMap fun r=>(r.ev st).cells.flatMap objC) ++ outCat (outNames st) 0 args).filterMap (blkOf C2):=by
      rw [List.filterMap_append]
      exact (sub1.append ho.owns).subset hb
     obtain ⟨h1,h2⟩:=hown b hm
     exact ⟨i2.gsub b h2,fun off hfr=>h1 off hfr.1⟩
    frame:=i2.frame }
 rw [hw] at key
 exact callsIn_wide.1 (callsIn_of_wp_marks (F:=Fence.wide) (n:=5) hf hb (args:=vs.toArray) trivial (wpIn_wide.2 (by simpa [a] using key)))
end Go.Ab

namespace Go.Ab
open Go
variable {E:Ent} {n:Sz} {C:Ctx} {st:St} {a:Act} {P:Program}
theorem all_congr' {α:Type} {l:List α} {f g:α->Bool} (h:∀ p∈l,f p=g p):l.all f=l.all g:=by
 induction l with
 |nil=>rfl
 |cons p l ih=>simp only [List.all_cons]; rw [h p (by simp),ih fun q hq=>h q (by simp [hq])]
theorem eff_pure {q:O} (hq:isPure q=true) {d:Option Nat} {K:St->Prop} (h:eff P q d st K) :
  ∃ v,K (st.put d v)/\∀ st':St,(∀ x∈q.xs,x.ev st'=x.ev st)->∀ K':St->Prop,K' (st'.put d v)->eff P q d st' K':=by
 cases q <;> try simp only [isPure,Bool.false_eq_true] at hq
 case iaddr s len x i =>
  cases len with
  |none=>simp [isPure] at hq
  |some l =>
   simp only [eff] at h ⊢
   split at h
   ·rename_i k n hi
    obtain ⟨q1,q2,h⟩:=h
    split at h
    all_goals first
      |exact h.elim
      |(
        rename_i hx
        refine ⟨_,h,fun st' hs K' hk=>?_⟩
        rw [hs i (by simp [O.xs]),hi,hs x (by simp [O.xs]),hx]
        exact ⟨q1,q2,hk⟩)
   ·exact h.elim
 case mv x =>
  exact ⟨_,h,fun st' hs K' hk=>by simp only [eff]; rw [hs x (by simp [O.xs])]; exact hk⟩
 case pick c x y =>
  have key:∀ st':St,(∀ z∈(O.pick c x y).xs,z.ev st'=z.ev st)->c.ev st'=c.ev st/\x.ev st'=x.ev st/\y.ev st'=y.ev st:=fun st' hs=>⟨hs c (by simp [O.xs]),hs x (by simp [O.xs]),hs y (by simp [O.xs])⟩
  simp only [eff] at h ⊢
  split at h
  ·rename_i t b1 b2 h1 h2 h3
   refine ⟨_,h,fun st' hs K' hk=>?_⟩
   obtain ⟨e1,e2,e3⟩:=key st' hs
   rw [e1,e2,e3,h1,h2,h3]; exact hk
  ·rename_i t h1 hno
   cases t with
   |true =>
    refine ⟨_,h.1 rfl,fun st' hs K' hk=>?_⟩
    obtain ⟨e1,e2,e3⟩:=key st' hs
    rw [e1,e2,e3,h1]
    split
    · rename_i g2 g3
      exact absurd g3 (hno _ _ g2)
    · rename_i g _
      cases g
      exact ⟨fun _=>hk,fun e=>by cases e⟩
    · rename_i g1 g2
      first|exact (g2 _ rfl).elim|exact (g1 _ rfl).elim|simp_all
   |false =>
    refine ⟨_,h.2 rfl,fun st' hs K' hk=>?_⟩
    obtain ⟨e1,e2,e3⟩:=key st' hs
    rw [e1,e2,e3,h1]
    split
    · rename_i g2 g3
      exact absurd g3 (hno _ _ g2)
    · rename_i g _
      cases g
      exact ⟨fun e=>(by cases e),fun _=>hk⟩
    · rename_i g1 g2
      first|exact (g2 _ rfl).elim|exact (g1 _ rfl).elim|simp_all
  ·exact h.elim
 case build z parts =>
  simp only [eff] at h ⊢
  refine ⟨_,h.2,fun st' hs K' hk=>?_⟩
  have hp:∀ p∈parts,p.2.2.ev st'=p.2.2.ev st:=fun p hp=>hs _ (by simp only [O.xs,List.mem_map]; exact ⟨p,hp,rfl⟩)
  have e1:parts.all (fun p=>(p.2.2.ev st').val&&(p.2.2.ev st').cells.length == p.2.1)=parts.all (fun p=>(p.2.2.ev st).val&&(p.2.2.ev st).cells.length == p.2.1):=by
   exact all_congr' fun p hpm=>by rw [hp p hpm]
  have e2:∀ (l:List (Nat×Nat×X)) (z:List V),(∀ p∈l,p.2.2.ev st'=p.2.2.ev st)->l.foldl (fun cs p=>setR cs p.1 (p.2.2.ev st').cells) z=l.foldl (fun cs p=>setR cs p.1 (p.2.2.ev st).cells) z:=by
   intro l
   induction l with
   |nil=>intro z _; rfl
   |cons p l ih=>intro z hl; simp only [List.foldl_cons]; rw [hl p (by simp)]; exact ih _ fun q hq=>hl q (by simp [hq])
  rw [e1,e2 parts z hp]
  exact ⟨h.1,hk⟩
 case mkf f first caps =>
  simp only [eff] at h ⊢
  refine ⟨_,h,fun st' hs K' hk=>?_⟩
  have e1:first.map (·.ev st')=first.map (·.ev st):=List.map_congr_left fun x hx=>hs x (by simp [O.xs,hx])
  have e2:caps.map (·.ev st')=caps.map (·.ev st):=List.map_congr_left fun x hx=>hs x (by simp [O.xs,hx])
  rw [e1,e2]; exact hk
 case sslice x lo hi =>
  cases lo <;> cases hi <;>
  ·simp only [eff] at h ⊢
   split at h
   ·rename_i b k l h1 h2
    first
      |(
        split at h
        ·rename_i k' hh h3
         obtain ⟨q1,q2,q3,q4⟩:=h
         refine ⟨_,q4,fun st' hs K' hk=>?_⟩
         simp only [O.xs,Option.toList,List.append_nil,List.cons_append,List.nil_append,List.mem_cons,List.not_mem_nil,or_false,forall_eq_or_imp,forall_eq] at hs
         simp only [hs,h1,h2,h3]
         exact ⟨q1,q2,q3,hk⟩
        ·exact h.elim)
      |(
        obtain ⟨q1,q2,q3,q4⟩:=h
        refine ⟨_,q4,fun st' hs K' hk=>?_⟩
        simp only [O.xs,Option.toList,List.append_nil,List.cons_append,List.nil_append,List.mem_cons,List.not_mem_nil,or_false,forall_eq_or_imp,forall_eq] at hs
        simp only [hs,h1,h2]
        exact ⟨q1,q2,q3,hk⟩)
   ·exact h.elim
 case bin op x y =>
  simp only [eff] at h ⊢
  split at h
  ·rename_i k m k' m' h1 h2
   obtain ⟨rfl,hb⟩:=h
   have gen:∃ v,K (st.put d v)/\∀ K':V->Prop,K' v->binI op k m m' K':=by
    cases op <;> simp only [binI] at hb ⊢ <;> first|exact ⟨_,hb,fun K' hk=>hk⟩|exact ⟨_,hb.2,fun K' hk=>⟨hb.1,hk⟩⟩|exact hb.elim
   obtain ⟨v,hv,hg⟩:=gen
   refine ⟨v,hv,fun st' hs K' hk=>?_⟩
   rw [hs x (by simp [O.xs]),hs y (by simp [O.xs]),h1,h2]
   exact ⟨rfl,hg _ hk⟩
  ·exact h.elim
 case eqa ng ks x y =>
  simp only [eff] at h ⊢
  split at h
  ·rename_i l m h1 h2
   split at h
   ·rename_i r h3
    refine ⟨_,h,fun st' hs K' hk=>?_⟩
    rw [hs x (by simp [O.xs]),hs y (by simp [O.xs]),h1,h2]
    dsimp only
    rw [h3]; exact hk
   ·exact h.elim
  ·exact h.elim
 case max x y =>
  simp only [eff] at h ⊢
  split at h
  ·rename_i k m k' m' h1 h2
   obtain ⟨rfl,h⟩:=h
   refine ⟨_,h,fun st' hs K' hk=>?_⟩
   rw [hs x (by simp [O.xs]),hs y (by simp [O.xs]),h1,h2]
   exact ⟨rfl,hk⟩
  ·exact h.elim
 case min x y =>
  simp only [eff] at h ⊢
  split at h
  ·rename_i k m k' m' h1 h2
   obtain ⟨rfl,h⟩:=h
   refine ⟨_,h,fun st' hs K' hk=>?_⟩
   rw [hs x (by simp [O.xs]),hs y (by simp [O.xs]),h1,h2]
   exact ⟨rfl,hk⟩
  ·exact h.elim
 all_goals
  simp only [eff] at h ⊢
  split at h <;> first
   |exact h.elim
   |(
     refine ⟨_,h,fun st' hs K' hk=>?_⟩
     simp only [O.xs,List.mem_cons,List.not_mem_nil,or_false,forall_eq_or_imp,forall_eq] at hs
     simp only [hs, *]
     done)
   |(
     obtain ⟨q1,q2⟩:=h
     refine ⟨_,q2,fun st' hs K' hk=>?_⟩
     simp only [O.xs,List.mem_cons,List.not_mem_nil,or_false,forall_eq_or_imp,forall_eq] at hs
     simp only [hs, *,and_self]
     done)
   |(
     obtain ⟨q1,q2,q3⟩:=h
     refine ⟨_,q3,fun st' hs K' hk=>?_⟩
     simp only [O.xs,List.mem_cons,List.not_mem_nil,or_false,forall_eq_or_imp,forall_eq] at hs
     simp only [hs, *,and_self]
     done)
   |(
     obtain ⟨q1,q2,q3,q4⟩:=h
     refine ⟨_,q4,fun st' hs K' hk=>?_⟩
     simp only [O.xs,List.mem_cons,List.not_mem_nil,or_false,forall_eq_or_imp,forall_eq] at hs
     simp only [hs, *,and_self]
     done)
end Go.Ab

namespace Go.Ab
open Go
variable {E:Ent} {n:Sz} {C:Ctx} {st:St} {a:Act} {P:Program}
inductive Reach (st:St):V->Nat->Prop where
 |here {v:V} {r:Nat} (h:v.has (fun i=>i == r)=true):Reach st v r
 |box {v:V} {q r:Nat} {cs:List V} {c:V} (h:v.has (fun i=>i == q)=true) (hq:st.heap q=.box cs) (hc:c∈cs) (t:Reach st c r):Reach st v r
structure SameQ (q:O) (st st':St):Prop where
 ev:∀ x∈q.xs,x.ev st'=x.ev st
 heap:∀ x∈q.xs,∀ r,Reach st (x.ev st) r->(st.heap r).isDead=false->st'.heap r=st.heap r
theorem SameQ.at {q:O} {st':St} (h:SameQ q st st') {x:X} (hx:x∈q.xs) {v:V} (hv:x.ev st=v) {r:Nat} (hr:v.has (fun i=>i == r)=true) (hl:(st.heap r).isDead=false):st'.heap r=st.heap r :=
 h.heap x hx r (hv ▸ .here hr) hl
def QuietAt (P:Program) (q:O) (d:Option Nat) (st:St) (K:St->Prop):Prop :=
 ∃
  v news,K ((st.sets news).put d v)/\(∀ y∈news,y.1∈q.names/\y.2.isDead=false)/\(∀ r∈q.names,(st.heap r).isDead=true) /\
  ∀ st':St,SameQ q st st'->(∀ r∈q.names,(st'.heap r).isDead=true)->∀ K':St->Prop,K' ((st'.sets news).put d v)->eff P q d st' K'
theorem newSl_quiet {s:Nat} {rows:List (List V)} {mode d:Option Nat} {K:St->Prop} (h:newSl s rows mode d st K) :
  ∃
   v news,K ((st.sets news).put d v)/\(∀ y∈news,y.1∈mode.toList/\y.2.isDead=false)/\(∀ r∈mode.toList,(st.heap r).isDead=true) /\
   ∀ st':St,(∀ r∈mode.toList,(st'.heap r).isDead=true)->∀ K':St->Prop,K' ((st'.sets news).put d v)->newSl s rows mode d st' K':=by
 cases mode with
 |none=>exact ⟨_,[],h,by simp,by simp,fun st' _ K' hk=>hk⟩
 |some r =>
  obtain ⟨h1,h2⟩:=h
  exact ⟨_,[(r,.rows s rows)],h2,by simp [AO.isDead],by simpa using h1,fun st' hd K' hk=>⟨hd r (by simp),hk⟩⟩
theorem thawC_names (v:V) (ns:List Nat):(thawC v ns).2.2.map (·.1) ++ (thawC v ns).2.1=ns/\∀ y∈(thawC v ns).2.2,y.2.isDead=false:=by
 unfold thawC
 split
 ·split <;> simp [AO.isDead]
 ·split <;> simp [AO.isDead]
 ·simp
theorem thawL_names:∀ (l:List V) (ns:List Nat),(thawL l ns).2.2.map (·.1) ++ (thawL l ns).2.1=ns/\∀ y∈(thawL l ns).2.2,y.2.isDead=false
 |[],ns=>by simp [thawL]
 |v::l,ns=>by
  obtain ⟨h1,h2⟩:=thawC_names v ns
  obtain ⟨h3,h4⟩:=thawL_names l (thawC v ns).2.1
  simp only [thawL,List.map_append,List.append_assoc,List.mem_append]
  exact ⟨by rw [h3,h1],fun y hy=>hy.elim (h2 y) (h4 y)⟩
theorem thaw2_names (v:V) (ns:List Nat):(thaw2 v ns).2.2.map (·.1) ++ (thaw2 v ns).2.1=ns/\∀ y∈(thaw2 v ns).2.2,y.2.isDead=false:=by
 unfold thaw2
 split
 ·exact thawL_names _ ns
 ·exact thawC_names _ ns
theorem thawT_names:∀ (l:List V) (ns:List Nat),(thawT l ns).2.2.map (·.1) ++ (thawT l ns).2.1=ns/\∀ y∈(thawT l ns).2.2,y.2.isDead=false
 |[],ns=>by simp [thawT]
 |v::l,ns=>by
  obtain ⟨h1,h2⟩:=thaw2_names v ns
  obtain ⟨h3,h4⟩:=thawT_names l (thaw2 v ns).2.1
  simp only [thawT,List.map_append,List.append_assoc,List.mem_append]
  exact ⟨by rw [h3,h1],fun y hy=>hy.elim (h2 y) (h4 y)⟩
theorem thaw_names (v:V) (ns:List Nat):(thaw v ns).2.2.map (·.1) ++ (thaw v ns).2.1=ns/\∀ y∈(thaw v ns).2.2,y.2.isDead=false:=by
 unfold thaw
 split
 ·exact thawT_names _ ns
 ·exact thaw2_names _ ns
theorem frz_same {st st':St}:∀ (k:Nat) (v:V),(∀ r,Reach st v r->(st.heap r).isDead=false->st'.heap r=st.heap r)->(frz st k v).closed=true->frz st' k v=frz st k v
 |0,v,_,_=>by
  have e:∀ st,frz st 0 v=v:=fun st=>by unfold frz; cases v <;> rfl
  rw [e,e]
 |k + 1,v,hh,hc=>by
  have lst:∀ (l:List V),(∀ c∈l,∀ r,Reach st c r->Reach st v r)->V.closedL (l.map (frz st k))=true->l.map (frz st' k)=l.map (frz st k):=fun l hr hcl =>
   List.map_congr_left fun c hm=>frz_same k c (fun r hrr hl=>hh r (hr c hm r hrr) hl) (by
    obtain ⟨j,hj⟩:=List.getElem?_of_mem hm
    exact closedL_all hcl j _ (by simp [hj]))
  cases v with
  |sref r i m =>
   simp only [frz] at hc ⊢
   cases e:st.heap r with
   |rows s rs=>rw [hh r (.here (by simp [V.has])) (by rw [e]; rfl),e]
   |_=>rw [e] at hc; simp [V.closed] at hc
  |rptr r i m =>
   simp only [frz] at hc ⊢
   cases e:st.heap r with
   |rows s rs=>rw [hh r (.here (by simp [V.has])) (by rw [e]; rfl),e]
   |_=>rw [e] at hc; simp [V.closed] at hc
  |ptr r off =>
   simp only [frz] at hc ⊢
   cases e:st.heap r with
   |box cs =>
    rw [e] at hc
    simp only [V.closed] at hc
    rw [hh r (.here (by simp [V.has])) (by rw [e]; rfl),e]
    simp only
    rw [lst cs (fun c hm q hq=>.box (by simp [V.has]) e hm hq) hc]
   |_=>rw [e] at hc; simp [V.closed] at hc
  |agg cs =>
   simp only [frz,V.closed] at hc ⊢
   rw [lst cs (fun c hm r hr=>reach_sub (fun p hp=>by simpa [V.has] using hasL_mem hm hp) hr) hc]
  |tup cs =>
   simp only [frz,V.closed] at hc ⊢
   rw [lst cs (fun c hm r hr=>reach_sub (fun p hp=>by simpa [V.has] using hasL_mem hm hp) hr) hc]
  |fn f x y =>
   simp only [frz,V.closed,Bool.and_eq_true] at hc ⊢
   rw [lst x (fun c hm r hr=>reach_sub (fun p hp=>by simp [V.has,hasL_mem hm hp]) hr) hc.1,lst y (fun c hm r hr=>reach_sub (fun p hp=>by simp [V.has,hasL_mem hm hp]) hr) hc.2]
  |_=>rfl
where
 hasL_mem {p:Nat->Bool} {c:V} {l:List V} (hm:c∈l) (hp:c.has p=true):V.hasL p l=true:=by
  induction l with
  |nil=>simp at hm
  |cons x l ih =>
   simp only [V.hasL,Bool.or_eq_true]
   rcases List.mem_cons.1 hm with rfl|hm
   ·exact .inl hp
   ·exact .inr (ih hm)
 reach_sub {st:St} {c v:V} {r:Nat} (h:∀ p,c.has p=true->v.has p=true) (hr:Reach st c r):Reach st v r:=by
  cases hr with
  |here h1=>exact .here (h _ h1)
  |box h1 h2 h3 h4=>exact .box (h _ h1) h2 h3 h4
end Go.Ab
