/-
  places.put at a key that is there.
-/
import Derived.Test.YtkanpbjjabdalaaK24
set_option linter.all false
namespace Go.Proofs
open Go.RowKit Go.Shelf Go.Ab Go.MapKept
attribute [local go_sem] Oper.semAt_some
theorem wpListIn_app {F:Fence} {n:Nat} {P:Program} {w:World} {ops:Array Oper} {rest:List Oper} {o:Oper} {a:Act} {Q:Exit->Act->World->Prop}
  (hg:o.guard=none) (s x:Operand) (t:TypeId) (hop:o.op=Op.call { callee:=Callee.builtin Builtin.append,args:=#[s,x],argTypes:=#[t,t] })
  (v':Value) (w':World) (hrun:(Builtin.append_ #[t,t] o.type #[a.eval s,a.eval x]).run P w=.ok v' w')
  (hK:wpListIn F n P ops Q rest (a.put o.dst v') w') :
  wpListIn F n P ops Q (o::rest) a w:=by
 refine wpListIn_plain hg fun K hK'=>?_
 unfold Oper.wpIn
 refine ⟨?_,?_⟩
 ·simp [Oper.about,hop,resolve,Target.leads,Sem.run_pure]
 ·rw [Oper.semAt_plain F _ _ (by rw [hop]; intro c hc'; cases hc')]
  simp [execOp,hop,resolve,invoke,builtin,hrun,Result.andThen]
  exact hK' _ _ hK
theorem append_room {P:Program} (w:World) (t ty e t':TypeId) (i:TypeInfo) (ht:P.underlying t=some (.slice e)) (hi:P.info? e=some i)
  (g sLen sCap:Nat) (cur:Array Value) (hg:w.heap[g]?=some (.cells cur t' (0,0)))
  (a:Addr) (m c:Nat) (news:List Value) (hl:news.length=m * i.size) (hnews:∀ j u,news[j]?=some u->w.cell? (a.add j)=some u) (h1:∀ u∈news,u.oneCell'=true)
  (hroom:sLen+m<=sCap) (hfit:sLen * i.size+news.length<=cur.size) :
  (Builtin.append_ #[t,t] ty #[.slice (some ⟨g,0,none⟩) sLen sCap,.slice (some a) m c]).run P w =
   .ok (.slice (some ⟨g,0,none⟩) (sLen+m) sCap) (w.setRow g (cur.toList.take (sLen * i.size) ++ news ++ cur.toList.drop (sLen * i.size+news.length)).toArray):=by
 have hf:=run_firstCells_some (P:=P) w i.size m a m c news hl hnews
 have hst:=run_storeCells_at P g (sLen * i.size) t' news 0 cur w hg (by simpa using hfit) h1
 simp only [Nat.add_zero] at hst
 simp [Builtin.append_,run_underlying ht,sizeOf,typeInfo,hi,Builtin.lenOf,hroom,hf,Addr.add_lit,hst]
theorem t_place:∃ i,Try.prog.info? 45=some i/\i.zero=some (.agg #[.int .i64 0,.int .i64 0])/\i.size=2/\i.bytes=16:=by
 have h:(Try.prog.info? 45).map (fun i=>(i.zero,i.size,i.bytes))=some (some (.agg #[.int .i64 0,.int .i64 0]),2,16):=by kernel_rfl
 cases hi:Try.prog.info? 45 with
 |none=>rw [hi] at h; cases h
 |some i =>
  rw [hi] at h
  simp only [Option.map_some,Option.some.injEq,Prod.mk.injEq] at h
  exact ⟨i,rfl,h.1,h.2.1,h.2.2⟩
theorem cell_two_new' (w:World) (x y:Value) (t:TypeId):∀ j u,[x,y][j]?=some u->(w.alloc (.cells #[x,y] t)).cell? ((⟨w.heap.size,0,none⟩ : Addr).add j)=some u:=by
 intro j u hj
 match j,hj with
 |0,hj=>simp at hj; subst hj; simp [Addr.add]
 |1,hj=>simp at hj; subst hj; simp [Addr.add]
theorem put_app (w1:World) (ty:TypeId) (x y:Value) (hx1:x.oneCell'=true) (hy1:y.oneCell'=true) (c m cap:Nat) (cur:Array Value) (t:TypeId) (a:Addr)
  (hnews:∀ j u,[x,y][j]?=some u->w1.cell? (a.add j)=some u)
  (hmc:m<=cap) (hcm:cap<=maxLen) (hby:(m+1) * 16<=140737488355328) (hc:w1.heap[c]?=some (.cells cur t (0,0))) (hcs:cur.size=cap * 2) :
  ∃
   (c' cap':Nat) (w2:World) (cur':Array Value) (t':TypeId),
   (Builtin.append_ #[100,100] ty #[.slice (some ⟨c,0,none⟩) m cap,.slice (some a) 1 1]).run Try.prog w1=.ok (.slice (some ⟨c',0,none⟩) (m+1) cap') w2 /\
   ((c'=c/\cap'=cap/\m < cap/\t'=t)\/(w1.heap.size<=c'/\w2.heap[c]?=w1.heap[c]?))/\m+1<=cap'/\cap'<=maxLen/\w2.heap[c']?=some (.cells cur' t' (0,0))/\cur'.size=cap' * 2 /\
   (∀ j,j < m * 2->cur'[j]?=cur[j]?)/\cur'[m * 2]?=some x/\cur'[m * 2+1]?=some y /\
   w2.os=w1.os/\w2.output=w1.output/\w2.tape=w1.tape/\w1.heap.size<=w2.heap.size/\∀ i,i < w1.heap.size->i≠c->w2.heap[i]?=w1.heap[i]?:=by
 obtain ⟨i,hi,hz,hs,hb⟩:=t_place
 have hcl:c < w1.heap.size:=(Array.getElem?_eq_some_iff.1 hc).1
 by_cases hr:m+1<=cap
 ·have hrun:=append_room (P:=Try.prog) w1 100 ty 45 t i t_sl hi c m cap cur hc a 1 1 [x,y] (by simp [hs]) hnews (by simp [hx1,hy1]) hr (by rw [hs]; simp; omega)
  rw [hs] at hrun
  refine ⟨c,cap,_,_,t,hrun,.inl ⟨rfl,rfl,by omega,rfl⟩,hr,hcm,setRow_heap _ _ _ _ _ _ hc,?_,fun j hj=>?_,?_,?_,rfl,rfl,rfl,by simp,fun i _ hne=>setRow_other _ _ _ _ hne⟩
  ·simp; omega
  ·simp only [List.getElem?_toArray]
   rw [List.append_assoc,List.getElem?_append_left (by simp; omega),List.getElem?_take_of_lt hj]
   simp
  ·simp only [List.getElem?_toArray]
   rw [List.append_assoc,List.getElem?_append_right (by simp; omega)]
   have:m * 2 - (List.take (m * 2) cur.toList).length=0:=by simp; omega
   rw [this]; rfl
  ·simp only [List.getElem?_toArray]
   rw [List.append_assoc,List.getElem?_append_right (by simp; omega)]
   have:m * 2+1 - (List.take (m * 2) cur.toList).length=1:=by simp; omega
   rw [this]; rfl
 ·have hmc':m=cap:=by omega
  subst hmc'
  have hold:∀ j v,cur.toList[j]?=some v->w1.cell? ((⟨c,0,none⟩ : Addr).add j)=some v:=fun j v hj=>by
   have hadd:(⟨c,0,none⟩ : Addr).add j=⟨c,j,none⟩:=by unfold Addr.add; split <;> simp_all
   rw [hadd,cell_of_row w1 c j cur t (0,0) hc]
   simpa using hj
  have hrun:=run_append_grow (P:=Try.prog) w1 100 ty 45 i _ t_sl hi hz ⟨c,0,none⟩ m m cur.toList (by simp [hs,hcs]) hold a 1 1 [x,y] (by simp [hs]) hnews (by omega) (by omega) (growslice_fits (by omega) (by rw [hb]; exact hby))
  have hge:=grownCap_ge w1 (m+1) m 45
  have hle:=grownCap_le_maxLen w1 (m+1) m 45 (by simp only [maxLen]; omega)
  refine ⟨w1.heap.size,_,_,_,45,hrun,.inr ⟨Nat.le_refl _,_root_.Go.heap_alloc_old w1.drew _ hcl⟩,hge,hle,heap_alloc_new w1.drew _,?_,fun j hj=>?_,?_,?_,rfl,rfl,rfl,by simp,fun i hi _=>_root_.Go.heap_alloc_old w1.drew _ hi⟩
  ·simp only [Array.size_append,size_zeroCells,Value.cells]
   simp; omega
  ·rw [Array.append_assoc,Array.getElem?_append_left (by simp; omega)]
  ·rw [Array.append_assoc,Array.getElem?_append_right (by simp; omega)]
   have:m * 2 - cur.toList.toArray.size=0:=by simp; omega
   rw [this,Array.getElem?_append_left (by simp)]; rfl
  ·rw [Array.append_assoc,Array.getElem?_append_right (by simp; omega)]
   have:m * 2+1 - cur.toList.toArray.size=1:=by simp; omega
   rw [this,Array.getElem?_append_left (by simp)]; rfl
set_option maxRecDepth 100000 in
set_option maxHeartbeats 1000000 in
theorem put_old (w:World) (b clock:Nat) (ents:Array MapEntry) (g k n:Int) (hb:w.heap[b]?=some (.map ents clock)) (hk:∀ e∈ents.toList,∃ m,e.key=.int .i64 m)
  (i c m cap:Nat) (e:MapEntry) (cur:Array Value) (t:TypeId) (he:ents[i]?=some e) (hek:e.key=.int .i64 g) (hf:∀ j e',j < i->ents[j]?=some e'->e'.key≠.int .i64 g)
  (hv:e.val=.slice (some ⟨c,0,none⟩) m cap) (hcb:c≠b) (hmc:m<=cap) (hcm:cap<=maxLen) (hby:(m+1) * 16<=140737488355328) (hc:w.heap[c]?=some (.cells cur t (0,0))) (hcs:cur.size=cap * 2) :
  Calls Try.prog 109 #[.map (some b),.int .i64 g,.int .i64 k,.int .i64 n] w fun e' w'=>(∃ v,e'=.returned v)/\∃ (c' cap':Nat) (cur':Array Value) (t':TypeId),
   ((c'=c/\cap'=cap/\m < cap/\t'=t)\/(w.heap.size<=c'/\w'.heap[c]?=w.heap[c]?))/\c'≠b/\m+1<=cap'/\cap'<=maxLen/\w'.heap[c']?=some (.cells cur' t' (0,0))/\cur'.size=cap' * 2 /\
   (∀ j,j < m * 2->cur'[j]?=cur[j]?)/\cur'[m * 2]?=some (.int .i64 k)/\cur'[m * 2+1]?=some (.int .i64 n) /\
   w'.heap[b]?=some (.map (ents.modify i fun e=>{ e with key:=.int .i64 g,val:=.slice (some ⟨c',0,none⟩) (m+1) cap' }) clock) /\
   w'.os=w.os/\w'.output=w.output/\w'.tape=w.tape/\w.heap.size<=w'.heap.size/\∀ i,i < w.heap.size->i≠b->i≠c->w'.heap[i]?=w.heap[i]?:=by
 have hbs:b < w.heap.size:=(Array.getElem?_eq_some_iff.1 hb).1
 have hcs':c < w.heap.size:=(Array.getElem?_eq_some_iff.1 hc).1
 have hik:IsKey (.int .i64) (.int .i64 g):=(rfl:IntKind.i64=IntKind.i64)
 have hfn:=findNow_some hk he hek hf
 rw [hv] at hfn
 have hlook:(Instr.lookup 98 (.map (some b)) (.int .i64 g) false).run Try.prog w=.ok (.slice (some ⟨c,0,none⟩) m cap) w:=by
  simp [Instr.lookup,run_underlying t_map,MapKept.run_getObj_map hb,MapKept.run_checkKey t_int hik,MapKept.run_findKey t_int hfn,Result.andThen]
 have hc1:(w.alloc (Obj.cells #[Value.int IntKind.i64 k,Value.int IntKind.i64 n] 45)).heap[c]?=some (.cells cur t (0,0)):=(_root_.Go.heap_alloc_old w _ hcs').trans hc
 obtain ⟨c',cap',w2,cur',t',hrun,hor,hm1,hm2,hcc,hsz,hpre,hx0,hx1,ho1,ho2,ho3,hgs,hsame⟩:=put_app (w.alloc (Obj.cells #[Value.int IntKind.i64 k,Value.int IntKind.i64 n] 45)) 100 (.int .i64 k) (.int .i64 n) rfl rfl c m cap cur t ⟨w.heap.size,0,none⟩
  (cell_two_new' w _ _ _) hmc hcm hby hc1 hcs
 have hws:(w.alloc (Obj.cells #[Value.int IntKind.i64 k,Value.int IntKind.i64 n] 45)).heap.size=w.heap.size+1:=by simp
 have hb2:w2.heap[b]?=some (.map ents clock):=by
  rw [hsame b (by omega) (fun q=>hcb q.symm)]; exact (_root_.Go.heap_alloc_old w _ hbs).trans hb
 have hcb':c'≠b:=by
  rcases hor with ⟨h1,_⟩|⟨h1,_⟩
  ·rw [h1]; exact hcb
  ·omega
 have hupd:(Instr.mapUpdate 98 (.map (some b)) (.int .i64 g) (.slice (some ⟨c',0,none⟩) (m+1:Nat) cap')).run Try.prog w2=.ok () { w2 with heap:=w2.heap.setIfInBounds b (.map (ents.modify i fun e=>{ e with key:=.int .i64 g,val:=.slice (some ⟨c',0,none⟩) (m+1) cap' }) clock) }:=by
  simp [Instr.mapUpdate,run_underlying t_map,MapKept.run_getObj_map hb2,MapKept.run_checkKey t_int hik,MapKept.run_findKey t_int hfn,he,hek,run_keyThatStays hik,MapKept.run_setObj_map _ hb2,Result.andThen]
 rw [<- callsIn_wide (n:=3)]
 refine callsIn_of_wp Try.func109 rfl trivial ?_ rfl
 simp only [Try.ntmps109,List.size_toArray,List.length_cons,List.length_nil,Nat.reduceAdd,Nat.reduceSub,Array.replicate_succ,Array.replicate_zero,List.push_toArray,List.append_toArray,List.nil_append,List.cons_append]
 gi_wp2_with (gi_at_builtin; refine wpListIn_app rfl _ _ _ rfl _ _ hrun ?_)
 first
  |go_ret
  |go_end0
 have hset:=MapKept.heap_set (o':=.map (ents.modify i fun e=>{ e with key:=.int .i64 g,val:=.slice (some ⟨c',0,none⟩) (m+1) cap' }) clock) hb2
 refine ⟨⟨_,rfl⟩,c',cap',cur',t',?_,hcb',hm1,hm2,(hset.2 _ hcb').trans hcc,hsz,hpre,hx0,hx1,hset.1,by first|exact ho1|rfl,by first|exact ho2|rfl,by first|exact ho3|rfl,?_,fun i hi hne hnc=>?_⟩
 ·rcases hor with h|⟨h1,h2⟩
  ·exact .inl h
  ·refine .inr ⟨by omega,?_⟩
   exact (hset.2 c hcb).trans (h2.trans (_root_.Go.heap_alloc_old w _ hcs'))
 ·show w.heap.size<=(Array.setIfInBounds _ _ _).size
  rw [Array.size_setIfInBounds]; omega
 ·exact (hset.2 i hne).trans ((hsame i (by omega) hnc).trans (_root_.Go.heap_alloc_old w _ hi))
theorem put_callable:callable Try.prog 109=true:=by kernel_rfl
theorem c109:PutC Try.prog 109 :=
 ⟨put_callable,fun w b clock ents g k n hb hk=>⟨fun hn=>put_new w b clock ents g k n hb hk hn,fun i c m cap e cur t he hek hf hv hcb _ hmc hcm hby hc hcs _=>put_old w b clock ents g k n hb hk i c m cap e cur t he hek hf hv hcb hmc hcm hby hc hcs⟩⟩
end Go.Proofs
