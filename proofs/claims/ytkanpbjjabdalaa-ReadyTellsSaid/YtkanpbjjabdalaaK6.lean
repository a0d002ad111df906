/-
  Regions in any order: each operation of class 1.
  Regions in any order: calls that read alone; all operations of class 1, and stores.
  Regions in any order: an operation may be done ahead.
  What follows an operation may be weakened.
  Regions in any order: an operation may be done ahead of others.
-/
import Derived.Test.YtkanpbjjabdalaaK1
import Derived.Test.YtkanpbjjabdalaaK5
set_option linter.all false
namespace Go.Ab
open Go
variable {E:Ent} {n:Sz} {C:Ctx} {st:St} {a:Act} {P:Program}
theorem pure_quiet {q:O} (hq:isPure q=true) {d:Option Nat} {K:St->Prop} (h:eff P q d st K):QuietAt P q d st K:=by
 obtain ⟨v,h1,h2⟩:=eff_pure hq h
 have hn:q.names=[]:=by cases q <;> simp_all [isPure,O.names]
 exact ⟨v,[],h1,by simp,by simp [hn],fun st' hs _ K' hk=>h2 st' hs.ev K' hk⟩
theorem load_quiet {agg:Bool} {k:Nat} {x:X} {d:Option Nat} {K:St->Prop} (h:eff P (.load agg k x) d st K):QuietAt P (.load agg k x) d st K:=by
 simp only [eff] at h
 split at h
 ·rename_i r off hx
  split at h
  ·rename_i cs hh
   refine ⟨_,[],h.2,by simp,by simp [O.names],fun st' hs _ K' hk=>?_⟩
   have e:=hs.at (x:=x) (by simp [O.xs]) hx (r:=r) (by simp [V.has]) (by rw [hh]; rfl)
   simp only [eff]
   rw [hs.ev x (by simp [O.xs]),hx]
   dsimp only
   rw [e,hh]
   exact ⟨h.1,hk⟩
  ·exact h.elim
 ·rename_i r i off hx
  split at h
  ·rename_i s rs hh
   refine ⟨_,[],h.2,by simp,by simp [O.names],fun st' hs _ K' hk=>?_⟩
   have e:=hs.at (x:=x) (by simp [O.xs]) hx (r:=r) (by simp [V.has]) (by rw [hh]; rfl)
   simp only [eff]
   rw [hs.ev x (by simp [O.xs]),hx]
   dsimp only
   rw [e,hh]
   exact ⟨h.1,hk⟩
  ·exact h.elim
 ·rename_i cs off hx
  refine ⟨_,[],h.2,by simp,by simp [O.names],fun st' hs _ K' hk=>?_⟩
  simp only [eff]
  rw [hs.ev x (by simp [O.xs]),hx]
  exact ⟨h.1,hk⟩
 ·exact h.elim
theorem loadb_quiet {k:Nat} {x:X} {d:Option Nat} {K:St->Prop} (h:eff P (.loadb k x) d st K):QuietAt P (.loadb k x) d st K:=by
 simp only [eff] at h
 split at h
 ·rename_i r off hx
  split at h
  ·rename_i cs hh
   refine ⟨_,[],h.2,by simp,by simp [O.names],fun st' hs _ K' hk=>?_⟩
   have e:=hs.at (x:=x) (by simp [O.xs]) hx (r:=r) (by simp [V.has]) (by rw [hh]; rfl)
   simp only [eff]
   rw [hs.ev x (by simp [O.xs]),hx]
   dsimp only
   rw [e,hh]
   exact ⟨h.1,hk⟩
  ·exact h.elim
 ·exact h.elim
theorem iaddr_quiet {s:Nat} {len:Option Nat} {x i:X} {d:Option Nat} {K:St->Prop} (h:eff P (.iaddr s len x i) d st K):QuietAt P (.iaddr s len x i) d st K:=by
 simp only [eff] at h
 split at h
 ·rename_i k m hi
  cases len with
  |none =>
   dsimp only at h
   split at h
   ·rename_i f s' rows hx
    obtain ⟨q1,q2,q3,q4⟩:=h
    refine ⟨_,[],q4,by simp,by simp [O.names],fun st' hs _ K' hk=>?_⟩
    simp only [eff]
    rw [hs.ev x (by simp [O.xs]),hs.ev i (by simp [O.xs]),hx,hi]
    exact ⟨q1,q2,q3,hk⟩
   ·rename_i r j m' hx
    split at h
    ·rename_i s' rs hh
     obtain ⟨q1,q2,q3,q4⟩:=h
     refine ⟨_,[],q4,by simp,by simp [O.names],fun st' hs _ K' hk=>?_⟩
     have e:=hs.at (x:=x) (by simp [O.xs]) hx (r:=r) (by simp [V.has]) (by rw [hh]; rfl)
     simp only [eff]
     rw [hs.ev x (by simp [O.xs]),hs.ev i (by simp [O.xs]),hx,hi]
     dsimp only
     rw [e,hh]
     exact ⟨q1,q2,q3,hk⟩
    ·exact h.elim
   ·exact h.elim
  |some l =>
   dsimp only at h
   obtain ⟨q1,q2,h⟩:=h
   split at h
   ·rename_i r o hx
    refine ⟨_,[],h,by simp,by simp [O.names],fun st' hs _ K' hk=>?_⟩
    simp only [eff]
    rw [hs.ev x (by simp [O.xs]),hs.ev i (by simp [O.xs]),hx,hi]
    exact ⟨q1,q2,hk⟩
   ·rename_i r j o hx
    refine ⟨_,[],h,by simp,by simp [O.names],fun st' hs _ K' hk=>?_⟩
    simp only [eff]
    rw [hs.ev x (by simp [O.xs]),hs.ev i (by simp [O.xs]),hx,hi]
    exact ⟨q1,q2,hk⟩
   ·rename_i cs o hx
    refine ⟨_,[],h,by simp,by simp [O.names],fun st' hs _ K' hk=>?_⟩
    simp only [eff]
    rw [hs.ev x (by simp [O.xs]),hs.ev i (by simp [O.xs]),hx,hi]
    exact ⟨q1,q2,hk⟩
   ·exact h.elim
 ·exact h.elim
theorem box_quiet {x:X} {r:Nat} {d:Option Nat} {K:St->Prop} (h:eff P (.box x r) d st K):QuietAt P (.box x r) d st K:=by
 simp only [eff] at h
 obtain ⟨h1,h2,h3⟩:=h
 refine ⟨_,[(r,.box (x.ev st).cells)],h3,by simp [O.names,AO.isDead],by simpa [O.names] using h2,fun st' hs hd K' hk=>?_⟩
 simp only [eff]
 rw [hs.ev x (by simp [O.xs])]
 exact ⟨h1,hd r (by simp [O.names]),hk⟩
theorem alloc_quiet {z:List V} {r:Nat} {objs:List Nat} {d:Option Nat} {K:St->Prop} (h:eff P (.alloc z r objs) d st K):QuietAt P (.alloc z r objs) d st K:=by
 simp only [eff] at h
 obtain ⟨h1,h2,h3⟩:=h
 obtain ⟨t1,t2⟩:=thawL_names z objs
 have e:∀ st:St,(st.sets ((thawL z objs).2.2 ++ [(r,.box (thawL z objs).1)]))=(st.sets (thawL z objs).2.2).set r (.box (thawL z objs).1):=fun st=>by rw [sets_append]; rfl
 refine ⟨.ptr r 0,(thawL z objs).2.2 ++ [(r,.box (thawL z objs).1)],by rw [e]; exact h3,fun y hy=>?_,fun q hq=>List.all_eq_true.1 h2 q hq,fun st' hs hd K' hk=>?_⟩
 ·rcases List.mem_append.1 hy with hy|hy
  ·refine ⟨?_,t2 y hy⟩
   have:y.1∈objs:=by rw [<- t1]; exact List.mem_append_left _ (List.mem_map_of_mem hy)
   simp [O.names,this]
  ·simp at hy; subst hy; simp [O.names,AO.isDead]
 ·simp only [eff]
  rw [e] at hk
  exact ⟨h1,List.all_eq_true.2 hd,hk⟩
theorem nil_quiet {s r:Nat} {d:Option Nat} {K:St->Prop} (h:eff P (.nil s r) d st K):QuietAt P (.nil s r) d st K:=by
 simp only [eff] at h
 refine ⟨_,[(r,.rows s [])],h.2,by simp [O.names,AO.isDead],by simpa [O.names] using h.1,fun st' hs hd K' hk=>?_⟩
 simp only [eff]
 exact ⟨hd r (by simp [O.names]),hk⟩
theorem mkm_quiet {r:Nat} {d:Option Nat} {K:St->Prop} (h:eff P (.mkm r) d st K):QuietAt P (.mkm r) d st K:=by
 simp only [eff] at h
 refine ⟨_,[(r,.mp [] [])],h.2,by simp [O.names,AO.isDead],by simpa [O.names] using h.1,fun st' hs hd K' hk=>?_⟩
 simp only [eff]
 exact ⟨hd r (by simp [O.names]),hk⟩
theorem mget_quiet {kd z:V} {x k:X} {d:Option Nat} {K:St->Prop} (h:eff P (.mget kd z x k) d st K):QuietAt P (.mget kd z x k) d st K:=by
 simp only [eff] at h
 split at h
 ·rename_i r hx
  split at h
  ·rename_i ks vs hh
   refine ⟨_,[],h.2.2,by simp,by simp [O.names],fun st' hs _ K' hk=>?_⟩
   have e:=hs.at (x:=x) (by simp [O.xs]) hx (r:=r) (by simp [V.has]) (by rw [hh]; rfl)
   simp only [eff]
   rw [hs.ev x (by simp [O.xs]),hs.ev k (by simp [O.xs]),hx]
   dsimp only
   rw [e,hh]
   exact ⟨h.1,h.2.1,hk⟩
  ·exact h.elim
 ·exact h.elim
theorem mlen_quiet {x:X} {d:Option Nat} {K:St->Prop} (h:eff P (.mlen x) d st K):QuietAt P (.mlen x) d st K:=by
 simp only [eff] at h
 split at h
 ·rename_i r hx
  split at h
  ·rename_i ks vs hh
   refine ⟨_,[],h,by simp,by simp [O.names],fun st' hs _ K' hk=>?_⟩
   have e:=hs.at (x:=x) (by simp [O.xs]) hx (r:=r) (by simp [V.has]) (by rw [hh]; rfl)
   simp only [eff]
   rw [hs.ev x (by simp [O.xs]),hx]
   dsimp only
   rw [e,hh]
   exact hk
  ·exact h.elim
 ·exact h.elim
theorem bsl_quiet {s:Nat} {parts:List X} {mode:Option Nat} {d:Option Nat} {K:St->Prop} (h:eff P (.bsl s parts mode) d st K):QuietAt P (.bsl s parts mode) d st K:=by
 cases parts with
 |nil =>
  cases mode with
  |none =>
   simp only [eff] at h
   exact ⟨_,[],h,by simp,by simp [O.names],fun st' hs _ K' hk=>by simp only [eff]; exact hk⟩
  |some r =>
   simp only [eff] at h
   refine ⟨_,[(r,.rows s [])],h.2,by simp [O.names,AO.isDead],by simpa [O.names] using h.1,fun st' hs hd K' hk=>?_⟩
   simp only [eff]
   exact ⟨hd r (by simp [O.names]),hk⟩
 |cons p ps =>
  simp only [eff] at h
  obtain ⟨h1,h2⟩:=h
  obtain ⟨v,news,n1,n2,n3,n4⟩:=newSl_quiet h2
  refine ⟨v,news,n1,n2,n3,fun st' hs hd K' hk=>?_⟩
  simp only [eff]
  have hp:∀ x∈p::ps,x.ev st'=x.ev st:=fun x hx=>hs.ev x (by simpa [O.xs] using hx)
  have e1:(p::ps).all (fun p=>(p.ev st').val&&V.closedL (p.ev st').cells&&(p.ev st').cells.length == s)=(p::ps).all (fun p=>(p.ev st).val&&V.closedL (p.ev st).cells&&(p.ev st).cells.length == s) :=
   all_congr' fun x hx=>by rw [hp x hx]
  have e2:(p::ps).map (fun p=>(p.ev st').cells)=(p::ps).map (fun p=>(p.ev st).cells):=List.map_congr_left fun x hx=>by rw [hp x hx]
  rw [e1,e2]
  exact ⟨h1,n4 st' hd K' hk⟩
theorem mks_quiet {s bytes:Nat} {z:List V} {x:X} {mode:Option Nat} {d:Option Nat} {K:St->Prop} (h:eff P (.mks s bytes z x mode) d st K):QuietAt P (.mks s bytes z x mode) d st K:=by
 simp only [eff] at h
 split at h
 ·rename_i m hx
  obtain ⟨h0,h1,h2,h3⟩:=h
  obtain ⟨v,news,n1,n2,n3,n4⟩:=newSl_quiet h3
  refine ⟨v,news,n1,n2,n3,fun st' hs hd K' hk=>?_⟩
  simp only [eff]
  rw [hs.ev x (by simp [O.xs]),hx]
  exact ⟨h0,h1,h2,n4 st' hd K' hk⟩
 ·exact h.elim
theorem srcRows_same {st':St} {s:Nat} {v:V} {ys:List (List V)} (h:srcRows st s v=some ys) (hh:∀ r,v.has (fun i=>i == r)=true->(st.heap r).isDead=false->st'.heap r=st.heap r):srcRows st' s v=some ys:=by
 cases v with
 |sref r j m =>
  simp only [srcRows] at h ⊢
  cases e:st.heap r with
  |rows s' rs=>rw [hh r (by simp [V.has]) (by rw [e]; rfl)]; exact h
  |_=>simp [e] at h
 |_=>exact h
theorem app_quiet {s bytes:Nat} {x y:X} {mode:Option Nat} {d:Option Nat} {K:St->Prop} (hq:∃ s,x.ev st=.nils s) (h:eff P (.app s bytes x y mode) d st K):QuietAt P (.app s bytes x y mode) d st K:=by
 obtain ⟨s0,hx⟩:=hq
 simp only [eff] at h
 split at h
 ·exact h.elim
 ·rename_i ys hy
  rw [hx] at h
  dsimp only at h
  obtain ⟨h1,h2⟩:=h
  obtain ⟨v,news,n1,n2,n3,n4⟩:=newSl_quiet h2
  refine ⟨v,news,n1,n2,n3,fun st' hs hd K' hk=>?_⟩
  have e:srcRows st' s (y.ev st)=some ys:=srcRows_same hy fun r hr hl=>hs.heap y (by simp [O.xs]) r (.here hr) hl
  simp only [eff]
  rw [hs.ev x (by simp [O.xs]),hs.ev y (by simp [O.xs]),e,hx]
  exact ⟨h1,n4 st' hd K' hk⟩
theorem slice_quiet {s:Nat} {x:X} {lo hi:Option X} {d:Option Nat} {K:St->Prop} (h:eff P (.slice s x lo hi) d st K):QuietAt P (.slice s x lo hi) d st K:=by
 cases lo <;> cases hi <;>
 ·simp only [eff] at h
  split at h
  ·rename_i f s' rows k l hx hlo
   first
    |(
      split at h
      ·rename_i k' hh h3
       obtain ⟨q1,q2,q3,q4,q5⟩:=h
       refine ⟨_,[],q5,by simp,by simp [O.names],fun st' hs _ K' hk=>?_⟩
       have hs1:=hs.ev
       simp only [O.xs,Option.toList,List.append_nil,List.cons_append,List.nil_append,List.mem_cons,List.not_mem_nil,or_false,forall_eq_or_imp,forall_eq] at hs1
       simp only [eff,hs1,hx,hlo,h3]
       exact ⟨q1,q2,q3,q4,hk⟩
      ·exact h.elim)
    |(
      obtain ⟨q1,q2,q3,q4,q5⟩:=h
      refine ⟨_,[],q5,by simp,by simp [O.names],fun st' hs _ K' hk=>?_⟩
      have hs1:=hs.ev
      simp only [O.xs,Option.toList,List.append_nil,List.cons_append,List.nil_append,List.mem_cons,List.not_mem_nil,or_false,forall_eq_or_imp,forall_eq] at hs1
      simp only [eff,hs1,hx,hlo]
      exact ⟨q1,q2,q3,q4,hk⟩)
  ·rename_i r i m k l hx hlo
   split at h
   ·rename_i s' rs k' hh h3 h4
    obtain ⟨q1,q2,q3,q4,q5⟩:=h
    refine ⟨_,[],q5,by simp,by simp [O.names],fun st' hs _ K' hk=>?_⟩
    have e:=hs.at (x:=x) (by simp [O.xs]) hx (r:=r) (by simp [V.has]) (by rw [h3]; rfl)
    have hs1:=hs.ev
    simp only [O.xs,Option.toList,List.append_nil,List.cons_append,List.nil_append,List.mem_cons,List.not_mem_nil,or_false,forall_eq_or_imp,forall_eq] at hs1
    simp only [eff,hs1,hx,hlo,e,h3,h4]
    exact ⟨q1,q2,q3,q4,hk⟩
   ·exact h.elim
  ·exact h.elim
end Go.Ab

namespace Go.Ab
open Go
variable {E:Ent} {n:Sz} {C:Ctx} {st:St} {a:Act} {P:Program}
theorem ro_none {args:List Pm} (h:args.all (fun p=>match p with|.ro _=>true|_=>false)=true) (st:St) :
  args.flatMap (·.gone st)=[]/\args.flatMap (·.box st)=[]/\(∀ s,blanks st args s=s)/\(∀ outs s,backs st args outs s=s):=by
 induction args with
 |nil=>exact ⟨rfl,rfl,fun _=>rfl,fun outs s=>by cases outs <;> rfl⟩
 |cons p ps ih =>
  simp only [List.all_cons,Bool.and_eq_true] at h
  obtain ⟨h1,h2,h3,h4⟩:=ih h.2
  cases p with
  |ro x =>
   refine ⟨by rw [List.flatMap_cons,h1]; rfl,by rw [List.flatMap_cons,h2]; rfl,fun s=>by simp [blanks,h3],fun outs s=>?_⟩
   cases outs with
   |nil=>rfl
   |cons o os=>simp [backs,h4]
  |io x k=>simp at h
  |mv x k=>simp at h
theorem outsOk_ro {args:List Pm} (h:args.all (fun p=>match p with|.ro _=>true|_=>false)=true) (st st':St):∀ outs,outsOk st' args outs=outsOk st args outs:=by
 induction args with
 |nil=>intro outs; cases outs <;> rfl
 |cons p ps ih =>
  simp only [List.all_cons,Bool.and_eq_true] at h
  intro outs
  cases p with
  |ro x=>cases outs with
   |nil=>rfl
   |cons o os=>simp only [outsOk]; exact ih h.2 os
  |io x k=>simp at h
  |mv x k=>simp at h
theorem call_quiet' {f:FuncId} {args:List Pm} {objs:List Nat} {d:Option Nat} {K:St->Prop} (hro:args.all (fun p=>match p with|.ro _=>true|_=>false)=true) (h:call P f args objs d st K) :
  ∃
   v news,K ((st.sets news).put d v)/\(∀ y∈news,y.1∈objs/\y.2.isDead=false)/\(∀ r∈objs,(st.heap r).isDead=true) /\
   ∀
    st':St,(∀ p∈args,p.x.ev st'=p.x.ev st/\∀ r,Reach st (p.x.ev st) r->(st.heap r).isDead=false->st'.heap r=st.heap r)->(∀ r∈objs,(st'.heap r).isDead=true) ->
    ∀ K':St->Prop,K' ((st'.sets news).put d v)->call P f args objs d st' K':=by
 obtain ⟨g1,g2,g3,g4⟩:=ro_none hro st
 unfold call at h
 rw [g1,g2] at h
 obtain ⟨_,h2,h3,h4,res,outs,fr,h5,h6,h7,h8⟩:=h
 rw [g3,g4] at h8
 simp only [List.append_nil,St.kills] at h4 h5 h6 h8
 obtain ⟨t1,t2⟩:=thaw_names res objs
 refine ⟨_,_,h8,fun y hy=>⟨by rw [<- t1]; exact List.mem_append_left _ (List.mem_map_of_mem hy),t2 y hy⟩,fun r hr=>List.all_eq_true.1 h3 r hr,fun st' hs hd K' hk=>?_⟩
 obtain ⟨g1',g2',g3',g4'⟩:=ro_none hro st'
 have hval:∀ p∈args,p.val st' st'=p.val st st:=fun p hp=>by
  have hpr:=List.all_eq_true.1 hro p hp
  have hpo:=List.all_eq_true.1 h4 p hp
  cases p with
  |ro x =>
   simp only [Pm.val]
   obtain ⟨e1,e2⟩:=hs _ hp
   simp only [Pm.x] at e1 e2
   rw [e1,frz_same 4 (x.ev st) e2 (closed_of_sh _ (by simpa [Pm.ok,Pm.val] using hpo))]
  |io x k=>simp at hpr
  |mv x k=>simp at hpr
 have hok:∀ p∈args,p.ok st' st'=p.ok st st:=fun p hp=>by unfold Pm.ok; rw [hval p hp]
 have hplain:∀ p∈args,p.plain st'=p.plain st:=fun p hp=>by
  cases p with
  |ro x=>simp only [Pm.plain]; rw [show x.ev st'=x.ev st from (hs _ hp).1]
  |_=>rfl
 unfold call
 rw [g1',g2']
 simp only [List.append_nil,St.kills]
 refine ⟨rfl,h2,List.all_eq_true.2 hd,by rw [all_congr' hok]; exact h4,res,outs,fr,?_,by rw [all_congr' hplain]; exact h6,by rw [outsOk_ro hro st st']; exact h7,?_⟩
 ·rw [List.map_congr_left hval]; exact h5
 ·rw [g3',g4']; exact hk
theorem eff_quiet {o:Op'} (hq:quiet o st) {K:St->Prop} (h:eff P o.op o.dst st K):QuietAt P o.op o.dst st K:=by
 obtain ⟨d,q,g⟩:=o
 simp only at h ⊢
 cases q with
 |mv|pick|build|field|index|sidx|ext|bin|eqs|eqb|eqa|not|neg|len|slen|sslice|mkf|max|min|faddr|nilchk=>exact pure_quiet rfl h
 |box=>exact box_quiet h
 |alloc=>exact alloc_quiet h
 |nil=>exact nil_quiet h
 |bsl=>exact bsl_quiet h
 |load=>exact load_quiet h
 |loadb=>exact loadb_quiet h
 |store=>exact hq.elim
 |niltest=>exact hq.elim
 |mset=>exact hq.elim
 |mput=>exact hq.elim
 |callp=>exact hq.elim
 |cut=>exact hq.elim
 |clr=>exact hq.elim
 |mkm=>exact mkm_quiet h
 |mget=>exact mget_quiet h
 |mlen=>exact mlen_quiet h
 |iaddr=>exact iaddr_quiet h
 |app=>exact app_quiet hq h
 |slice=>exact slice_quiet h
 |mks=>exact mks_quiet h
 |call f args objs =>
  simp only [eff] at h
  obtain ⟨v,news,n1,n2,n3,n4⟩:=call_quiet' hq h
  refine ⟨v,news,n1,n2,n3,fun st' hs hd K' hk=>?_⟩
  simp only [eff]
  exact n4 st' (fun p hp=>⟨hs.ev _ (by simp only [O.xs]; exact List.mem_map_of_mem hp),hs.heap _ (by simp only [O.xs]; exact List.mem_map_of_mem hp)⟩) hd K' hk
 |calln x args objs =>
  simp only [eff] at h
  split at h
  ·rename_i f first caps hx
   obtain ⟨q1,q2,q3,h⟩:=h
   have hro:(first.map (fun v=>Pm.ro (.k v)) ++ args ++ caps.map fun v=>Pm.ro (.k v)).all (fun p=>match p with|.ro _=>true|_=>false)=true:=by
    simp only [List.all_append,List.all_map,Bool.and_eq_true]
    exact ⟨⟨by simp [Function.comp_def],hq⟩,by simp [Function.comp_def]⟩
   obtain ⟨v,news,n1,n2,n3,n4⟩:=call_quiet' hro h
   refine ⟨v,news,n1,n2,n3,fun st' hs hd K' hk=>?_⟩
   simp only [eff]
   rw [hs.ev x (by simp [O.xs]),hx]
   refine ⟨q1,q2,q3,n4 st' (fun p hp=>?_) hd K' hk⟩
   have closedNo:∀ v:V,v.closed=true->∀ r,¬ Reach st v r:=fun v hv r hr=>by
    cases hr with
    |here h1=>rw [closed_has _ v hv] at h1; cases h1
    |box h1 _ _ _=>rw [closed_has _ v hv] at h1; cases h1
   simp only [List.mem_append,List.mem_map] at hp
   rcases hp with (⟨v,hv,rfl⟩|hp)|⟨v,hv,rfl⟩
   ·obtain ⟨j,hj⟩:=List.getElem?_of_mem hv
    exact ⟨rfl,fun r hr=>absurd hr (closedNo v (closedL_all q2 j v hj) r)⟩
   ·exact ⟨hs.ev _ (by simp only [O.xs,List.mem_cons]; exact .inr (List.mem_map_of_mem hp)),hs.heap _ (by simp only [O.xs,List.mem_cons]; exact .inr (List.mem_map_of_mem hp))⟩
   ·obtain ⟨j,hj⟩:=List.getElem?_of_mem hv
    exact ⟨rfl,fun r hr=>absurd hr (closedNo v (closedL_all q3 j v hj) r)⟩
  ·exact h.elim
theorem eff_store {q:O} (hq:isStore q=true) {d:Option Nat} {K:St->Prop} (h:eff P q d st K) :
  ∃ r o,K ((st.set r o).put d .undef)/\∀ st':St,(∀ x∈q.xs,x.ev st'=x.ev st)->st'.heap=st.heap->∀ K':St->Prop,K' ((st'.set r o).put d .undef)->eff P q d st' K':=by
 cases q <;> simp only [isStore,Bool.false_eq_true] at hq
 rename_i k x v
 simp only [eff] at h
 obtain ⟨h1,h2,h⟩:=h
 split at h
 ·rename_i r off hx
  split at h
  ·rename_i cs hh
   refine ⟨r,_,h.2,fun st' hs he K' hk=>?_⟩
   simp only [eff]
   rw [hs x (by simp [O.xs]),hs v (by simp [O.xs]),hx]
   dsimp only
   rw [he,hh]
   exact ⟨h1,h2,h.1,hk⟩
  ·exact h.elim
 ·rename_i r i off hx
  split at h
  ·rename_i s rs hh
   obtain ⟨q1,q2,q3⟩:=h
   refine ⟨r,_,q3,fun st' hs he K' hk=>?_⟩
   simp only [eff]
   rw [hs x (by simp [O.xs]),hs v (by simp [O.xs]),hx]
   dsimp only
   rw [he,hh]
   exact ⟨h1,h2,q1,q2,hk⟩
  ·exact h.elim
 ·exact h.elim
end Go.Ab

namespace Go.Ab
open Go
variable {E:Ent} {n:Sz} {C:Ctx} {st:St} {a:Act} {P:Program}
theorem St.ext' {s t:St} (h1:∀ i,s.env i=t.env i) (h2:∀ i,s.heap i=t.heap i):s=t:=by
 cases s; cases t; simp only [St.mk.injEq]; exact ⟨funext h1,funext h2⟩
theorem sets_env (st:St):∀ l:List (Nat×AO),(st.sets l).env=st.env
 |[]=>rfl
 |(r,o)::l=>by rw [St.sets,sets_env]; rfl
theorem sets_heap_not (st:St):∀ (l:List (Nat×AO)) (r:Nat),(∀ y∈l,y.1≠r)->(st.sets l).heap r=st.heap r
 |[],_,_=>rfl
 |(q,o)::l,r,h=>by
  rw [St.sets,sets_heap_not _ l r fun y hy=>h y (by simp [hy])]
  have:=h (q,o) (by simp)
  simp only [St.set,upd]
  rw [if_neg fun e=>this e.symm]
theorem sets_heap_in (st st':St):∀ (l:List (Nat×AO)) (r:Nat),(∃ y∈l,y.1=r)->(st.sets l).heap r=(st'.sets l).heap r
 |[],_,⟨_,h,_⟩=>by simp at h
 |(q, o)::l,r,h=>by
  by_cases hl:∃ y∈l,y.1=r
  ·exact sets_heap_in _ _ l r hl
  ·have hl':∀ y∈l,y.1≠r:=fun y hy e=>hl ⟨y,hy,e⟩
   obtain ⟨y,hy,e⟩:=h
   rcases List.mem_cons.1 hy with rfl|hy
   ·simp only at e; subst e
    simp only [St.sets]
    rw [sets_heap_not _ l q hl',sets_heap_not _ l q hl']
    simp [St.set,upd]
   ·exact absurd e (hl' y hy)
theorem put_env {st:St} {d:Option Nat} {v:V} {t:Nat} (h:d≠some t):(st.put d v).env t=st.env t:=by
 cases d with
 |none=>rfl
 |some e=>simp only [St.put,upd]; rw [if_neg fun e'=>h (by rw [e'])]
theorem put_heap {st:St} {d:Option Nat} {v:V}:(st.put d v).heap=st.heap:=by cases d <;> rfl
theorem effects_comm (st:St) {l m:List (Nat×AO)} {d e:Option Nat} {v w:V} (hlm:∀ x∈l,∀ y∈m,x.1≠y.1) (hde:∀ t,d=some t->e≠some t) :
  ((((st.sets l).put d v).sets m).put e w)=((((st.sets m).put e w).sets l).put d v):=by
 refine St.ext' (fun i=>?_) (fun i=>?_)
 ·by_cases h1:d=some i
  ·have h2:=hde i h1
   rw [put_env h2,sets_env]
   subst h1
   simp [St.put,upd]
  ·rw [put_env (d:=d) h1,sets_env]
   by_cases he:e=some i
   ·subst he; simp [St.put,upd]
   ·rw [put_env he,put_env he,sets_env,put_env h1,sets_env,sets_env]
 ·rw [put_heap,put_heap]
  by_cases hm:∃ y∈m,y.1=i
  ·have hl:∀ x∈l,x.1≠i:=fun x hx ex=>by
    obtain ⟨y,hy,ey⟩:=hm
    exact hlm x hx y hy (ex.trans ey.symm)
   rw [sets_heap_not _ l i hl,put_heap]
   exact sets_heap_in _ _ m i hm
  ·have hm':∀ y∈m,y.1≠i:=fun y hy e=>hm ⟨y,hy,e⟩
   rw [sets_heap_not _ m i hm',put_heap]
   by_cases hl:∃ x∈l,x.1=i
   ·exact sets_heap_in _ _ l i hl
   ·have hl':∀ y∈l,y.1≠i:=fun y hy e=>hl ⟨y,hy,e⟩
    rw [sets_heap_not _ l i hl',sets_heap_not _ l i hl',put_heap,sets_heap_not _ m i hm']
structure SameG (cls:Nat) (o:Op') (st st':St):Prop where
 looks:∀ t∈o.looks,st'.env t=st.env t
 heap:cls=1->∀ x∈o.op.xs,∀ r,Reach st (x.ev st) r->(st.heap r).isDead=false->st'.heap r=st.heap r
 all:cls=2->st'.heap=st.heap
theorem ev_same {o:Op'} {st st':St} (h:∀ t∈o.looks,st'.env t=st.env t):∀ x∈o.op.xs,x.ev st'=x.ev st:=by
 intro x hx
 cases x with
 |t k=>exact h k (by simp only [Op'.looks,List.mem_append,List.mem_flatMap]; exact .inl ⟨_,hx,by simp [X.tmps]⟩)
 |k v=>rfl
structure Does (P:Program) (cls:Nat) (o:Op') (st:St) (v:V) (news:List (Nat×AO)):Prop where
 pure:cls=0->news=[]
 quiet:cls=1->(∀ y∈news,y.1∈o.op.names/\y.2.isDead=false)/\∀ r∈news.map (·.1),(st.heap r).isDead=true
 again:∀ st':St,SameG cls o st st'->(cls=1->∀ r∈news.map (·.1),(st'.heap r).isDead=true->True)->(cls=1->∀ r∈o.op.names,(st.heap r).isDead=true->(st'.heap r).isDead=true) ->
  ∀ K':St->Prop,K' ((st'.sets news).put o.dst v)->effG P o st' K'
theorem effG_does {cls:Nat} (hc:cls=0\/cls=1\/cls=2) {o:Op'} (hok:okClass o.op cls=true) (hq:cls=1->quiet o st) {K:St->Prop} (h:effG P o st K) :
  ∃ v news,K ((st.sets news).put o.dst v)/\Does P cls o st v news:=by
 -- without the guard
 have body:eff P o.op o.dst st K->∃ v news,K ((st.sets news).put o.dst v)/\(cls=0->news=[])/\(cls=1->(∀ y∈news,y.1∈o.op.names/\y.2.isDead=false)/\∀ r∈news.map (·.1),(st.heap r).isDead=true) /\
   ∀ st':St,SameG cls o st st'->(cls=1->∀ r∈o.op.names,(st.heap r).isDead=true->(st'.heap r).isDead=true)->∀ K':St->Prop,K' ((st'.sets news).put o.dst v)->eff P o.op o.dst st' K':=by
  intro h
  rcases hc with rfl|rfl|rfl
  ·obtain ⟨v,h1,h2⟩:=eff_pure hok h
   exact ⟨v,[],h1,fun _=>rfl,fun e=>by simp at e,fun st' hs _ K' hk=>h2 st' (ev_same hs.looks) K' hk⟩
  ·obtain ⟨v,news,h1,h2,h3,h4⟩:=eff_quiet (hq rfl) h
   refine ⟨v,news,h1,fun e=>by simp at e,fun _=>⟨h2,fun r hr=>?_⟩,fun st' hs hd K' hk=>h4 st' ⟨ev_same hs.looks,hs.heap rfl⟩ (fun r hr=>hd rfl r hr (h3 r hr)) K' hk⟩
   obtain ⟨y,hy,rfl⟩:=List.mem_map.1 hr
   exact h3 _ (h2 y hy).1
  ·obtain ⟨r,o',h1,h2⟩:=eff_store hok h
   exact ⟨.undef,[(r,o')],h1,fun e=>by simp at e,fun e=>by simp at e,fun st' hs _ K' hk=>h2 st' (ev_same hs.looks) (hs.all rfl) K' hk⟩
 unfold effG at h
 split at h
 ·rename_i hg
  obtain ⟨v,news,h1,h2,h3,h4⟩:=body h
  refine ⟨v,news,h1,h2,h3,fun st' hs _ hd K' hk=>?_⟩
  unfold effG
  rw [hg]
  exact h4 st' hs hd K' hk
 ·rename_i t w hg
  have hlook:t∈o.looks:=by simp [Op'.looks,hg]
  split at h
  ·rename_i b hb
   by_cases hbw:b=w
   ·subst hbw
    have h':=h.1 rfl
    rw [put_self hb] at h'
    obtain ⟨v,news,h1,h2,h3,h4⟩:=body h'
    refine ⟨v,news,h1,h2,h3,fun st' hs _ hd K' hk=>?_⟩
    unfold effG
    have hb':st'.env t=.bool b:=(hs.looks t hlook).trans hb
    rw [hg]
    dsimp only
    rw [hb']
    refine ⟨fun _=>?_,fun e=>by cases b <;> simp at e⟩
    rw [put_self hb']
    exact h4 st' hs hd K' hk
   ·have hnb:b=!w:=by cases b <;> cases w <;> simp_all
    have h':=h.2 hnb
    rw [put_self (by rw [hb,hnb])] at h'
    refine ⟨.tup [],[],h',fun _=>rfl,fun _=>⟨by simp,by simp⟩,fun st' hs _ hd K' hk=>?_⟩
    unfold effG
    have hb':st'.env t=.bool b:=(hs.looks t hlook).trans hb
    rw [hg]
    dsimp only
    rw [hb']
    refine ⟨fun e=>absurd e hbw,fun _=>?_⟩
    rw [put_self (by rw [hb',hnb])]
    exact hk
  ·rename_i hb
   refine ⟨.tup [],[],h,fun _=>rfl,fun _=>⟨by simp,by simp⟩,fun st' hs _ hd K' hk=>?_⟩
   unfold effG
   have hb':st'.env t=.tup []:=(hs.looks t hlook).trans hb
   rw [hg]
   dsimp only
   rw [hb']
   exact hk
  ·exact h.elim
end Go.Ab

namespace Go.Ab
open Go
variable {P:Program} {d:Option Nat} {st:St} {K K':St->Prop}
theorem newSl_mono {s:Nat} {rows:List (List V)} {mode:Option Nat} (h:newSl s rows mode d st K) (hK:∀ s,K s->K' s):newSl s rows mode d st K':=by
 unfold newSl at *
 split
 ·exact hK _ h
 ·exact ⟨h.1,hK _ h.2⟩
theorem call_mono {f:FuncId} {args:List Pm} {objs:List Nat} (h:call P f args objs d st K) (hK:∀ s,K s->K' s):call P f args objs d st K':=by
 obtain ⟨a,b,c,e,res,outs,fr,h1,h2,h3,h4⟩:=h
 exact ⟨a,b,c,e,res,outs,fr,h1,h2,h3,hK _ h4⟩
theorem binI_mono {op:BinOp} {k:IntKind} {a b:Int} {K K':V->Prop} (h:binI op k a b K) (hK:∀ s,K s->K' s):binI op k a b K':=by
 cases op <;> first|exact h.elim|exact hK _ h|exact ⟨h.1,hK _ h.2⟩
theorem eff_cut {s:Nat} {x hi:X} {mode d:Option Nat} {st:St} {K:St->Prop}:eff P (.cut s x hi mode) d st K=(match x.ev st,hi.ev st with
 |.sref r i n,.int _ z=>match st.heap r with
  |.rows s' rs=>s'=s/\i=0/\n=rs.length/\0<=z/\z.toNat<=n/\match mode with
   |none=>K ((st.kills [r]).put d (.sl true s (rs.take z.toNat)))
   |some r'=>r'=r/\K (((st.kills [r]).set r (.rows s (rs.take z.toNat))).put d (.sref r 0 z.toNat))
  |_=>False
 |_,_=>False):=rfl
theorem eff_mono {o:O} (h:eff P o d st K) (hK:∀ s,K s->K' s):eff P o d st K':=by
 cases o with
 |mv x=>exact hK _ h
 |pick c a b =>
  simp only [eff] at h ⊢
  generalize c.ev st=C at h ⊢
  generalize a.ev st=A at h ⊢
  generalize b.ev st=B at h ⊢
  cases C <;> first|exact h.elim|skip
  cases A <;> cases B <;> first|exact ⟨fun e=>hK _ (h.1 e),fun e=>hK _ (h.2 e)⟩|exact hK _ h
 |box x r=>exact ⟨h.1,h.2.1,hK _ h.2.2⟩
 |alloc z r objs=>exact ⟨h.1,h.2.1,hK _ h.2.2⟩
 |nil s r=>exact ⟨h.1,hK _ h.2⟩
 |build z parts=>exact ⟨h.1,hK _ h.2⟩
 |bsl s parts mode =>
  cases parts with
  |nil =>
   cases mode with
   |none=>exact hK _ h
   |some r=>exact ⟨h.1,hK _ h.2⟩
  |cons p l=>exact ⟨h.1,newSl_mono h.2 hK⟩
 |load agg n x =>
  simp only [eff] at h ⊢
  repeat' split at h
  all_goals first|exact h.elim|exact ⟨h.1,hK _ h.2⟩
 |store n x v =>
  simp only [eff] at h ⊢
  obtain ⟨a1,a2,h⟩:=h
  refine ⟨a1,a2,?_⟩
  repeat' split at h
  all_goals first|exact h.elim|exact ⟨h.1,hK _ h.2⟩|exact ⟨h.1,h.2.1,hK _ h.2.2⟩
 |loadb n x =>
  simp only [eff] at h ⊢
  repeat' split at h
  all_goals first|exact h.elim|exact ⟨h.1,hK _ h.2⟩
 |niltest ng x =>
  simp only [eff] at h ⊢
  split at h
  ·exact ⟨fun e=>⟨hK _ (h.1 e).1,hK _ (h.1 e).2⟩,fun e=>hK _ (h.2 e)⟩
  ·exact ⟨hK _ h.1,hK _ h.2⟩
  ·exact ⟨hK _ h.1,hK _ h.2⟩
  ·exact h.elim
 |mkm r=>exact ⟨h.1,hK _ h.2⟩
 |mget kd z x k =>
  simp only [eff] at h ⊢
  repeat' split at h
  all_goals first|exact h.elim|skip
  all_goals exact ⟨h.1,h.2.1,hK _ h.2.2⟩
 |mlen x =>
  simp only [eff] at h ⊢
  repeat' split at h
  all_goals first|exact h.elim|exact hK _ h
 |mset kd x k v =>
  simp only [eff] at h ⊢
  repeat' split at h
  all_goals first|exact h.elim|exact ⟨h.1,h.2.1,h.2.2.1,h.2.2.2.1,hK _ h.2.2.2.2⟩
 |mput f x g k n =>
  simp only [eff] at h ⊢
  generalize x.ev st=X at h ⊢
  generalize g.ev st=G at h ⊢
  generalize k.ev st=Y at h ⊢
  generalize n.ev st=N at h ⊢
  repeat' split at h
  all_goals first|exact h.elim|skip
  exact ⟨h.1,h.2.1,h.2.2.1,hK _ h.2.2.2⟩
 |faddr off x =>
  simp only [eff] at h ⊢
  split at h
  all_goals first|exact h.elim|exact hK _ h
 |iaddr s len x i =>
  simp only [eff] at h ⊢
  generalize i.ev st=I at h ⊢
  cases I <;> first|exact h.elim|skip
  cases len with
  |none =>
   simp only at h ⊢
   repeat' split at h
   all_goals first|exact h.elim|exact ⟨h.1,h.2.1,h.2.2.1,hK _ h.2.2.2⟩
  |some l =>
   refine ⟨h.1,h.2.1,?_⟩
   have h:=h.2.2
   split at h
   all_goals first|exact h.elim|exact hK _ h
 |field agg off n x =>
  simp only [eff] at h ⊢
  split at h
  all_goals first|exact h.elim|exact ⟨h.1,hK _ h.2⟩
 |index agg s len x i =>
  simp only [eff] at h ⊢
  generalize x.ev st=X at h ⊢
  generalize i.ev st=I at h ⊢
  cases X <;> first|exact h.elim|skip
  cases I <;> first|exact h.elim|exact ⟨h.1,h.2.1,h.2.2.1,hK _ h.2.2.2⟩
 |sidx x i =>
  simp only [eff] at h ⊢
  generalize x.ev st=X at h ⊢
  generalize i.ev st=I at h ⊢
  cases X <;> first|exact h.elim|skip
  cases I <;> first|exact h.elim|exact ⟨h.1,h.2.1,hK _ h.2.2⟩
 |ext k x =>
  simp only [eff] at h ⊢
  split at h
  all_goals first|exact h.elim|exact ⟨h.1,hK _ h.2⟩
 |bin op x y =>
  simp only [eff] at h ⊢
  generalize x.ev st=X at h ⊢
  generalize y.ev st=Y at h ⊢
  cases X <;> first|exact h.elim|skip
  cases Y <;> first|exact h.elim|exact ⟨h.1,binI_mono h.2 fun v=>hK _⟩
 |eqs ng x y =>
  simp only [eff] at h ⊢
  generalize x.ev st=X at h ⊢
  generalize y.ev st=Y at h ⊢
  cases X <;> first|exact h.elim|skip
  cases Y <;> first|exact h.elim|exact hK _ h
 |eqb ng x y =>
  simp only [eff] at h ⊢
  generalize x.ev st=X at h ⊢
  generalize y.ev st=Y at h ⊢
  cases X <;> first|exact h.elim|skip
  cases Y <;> first|exact h.elim|exact hK _ h
 |eqa ng ks x y =>
  simp only [eff] at h ⊢
  generalize x.ev st=X at h ⊢
  generalize y.ev st=Y at h ⊢
  cases X <;> first|exact h.elim|skip
  cases Y <;> first|exact h.elim|skip
  rename_i a b
  simp only at h ⊢
  generalize eqK ks a b=E at h ⊢
  cases E <;> first|exact h.elim|exact hK _ h
 |not x =>
  simp only [eff] at h ⊢
  split at h
  all_goals first|exact h.elim|exact hK _ h
 |neg x =>
  simp only [eff] at h ⊢
  split at h
  all_goals first|exact h.elim|exact hK _ h
 |len x =>
  simp only [eff] at h ⊢
  split at h
  all_goals first|exact h.elim|exact hK _ h
 |slen x =>
  simp only [eff] at h ⊢
  split at h
  all_goals first|exact h.elim|exact hK _ h
 |app s bytes x y mode =>
  simp only [eff] at h ⊢
  split at h
  ·exact h.elim
  ·split at h
   ·exact ⟨h.1,newSl_mono h.2 hK⟩
   ·split at h
    ·obtain ⟨h1,h2,h3,h4,h5⟩:=h
     refine ⟨h1,h2,h3,h4,?_⟩
     cases mode with
     |none=>exact hK _ h5
     |some r'=>exact ⟨h5.1,hK _ h5.2⟩
    ·exact h.elim
   ·exact h.elim
 |slice s x lo hi =>
  revert h
  have key:∀ L:V,(match x.ev st,L with
   |.sl f s' rows,.int _ l=>match (match hi with|none=>V.int .i64 rows.length|some h=>h.ev st) with
    |.int _ h=>s'=s/\0<=l/\l<=h/\h<=rows.length/\K (st.put d (.sl f s ((rows.take h.toNat).drop l.toNat)))
    |_=>False
   |.sref r i n,.int _ l=>match st.heap r,(match hi with|none=>V.int .i64 n|some h=>h.ev st) with
    |.rows s' _,.int _ h=>s'=s/\0<=l/\l<=h/\h<=n/\K (st.put d (.sref r (i+l.toNat) (h.toNat - l.toNat)))
    |_,_=>False
   |_,_=>False)->(match x.ev st,L with
   |.sl f s' rows,.int _ l=>match (match hi with|none=>V.int .i64 rows.length|some h=>h.ev st) with
    |.int _ h=>s'=s/\0<=l/\l<=h/\h<=rows.length/\K' (st.put d (.sl f s ((rows.take h.toNat).drop l.toNat)))
    |_=>False
   |.sref r i n,.int _ l=>match st.heap r,(match hi with|none=>V.int .i64 n|some h=>h.ev st) with
    |.rows s' _,.int _ h=>s'=s/\0<=l/\l<=h/\h<=n/\K' (st.put d (.sref r (i+l.toNat) (h.toNat - l.toNat)))
    |_,_=>False
   |_,_=>False):=by
   intro L h
   generalize x.ev st=X at h ⊢
   cases X <;> first|exact h.elim|skip
   ·cases L <;> first|exact h.elim|skip
    rename_i r i n _ l
    simp only at h ⊢
    generalize (match hi with|none=>V.int .i64 n|some h=>h.ev st)=H at h ⊢
    generalize st.heap r=O at h ⊢
    cases O <;> first|exact h.elim|skip
    cases H <;> first|exact h.elim|exact ⟨h.1,h.2.1,h.2.2.1,h.2.2.2.1,hK _ h.2.2.2.2⟩
   ·cases L <;> first|exact h.elim|skip
    rename_i f s' rows _ l
    simp only at h ⊢
    generalize (match hi with|none=>V.int .i64 rows.length|some h=>h.ev st)=H at h ⊢
    cases H <;> first|exact h.elim|exact ⟨h.1,h.2.1,h.2.2.1,h.2.2.2.1,hK _ h.2.2.2.2⟩
  exact fun h=>key _ h
 |sslice x lo hi =>
  revert h
  have key:∀ L:V,(match x.ev st,L with
   |.str b,.int _ l=>match (match hi with|none=>V.int .i64 b.size|some h=>h.ev st) with
    |.int _ h=>0<=l/\l<=h/\h<=b.size/\K (st.put d (.str (b.extract l.toNat h.toNat)))
    |_=>False
   |_,_=>False)->(match x.ev st,L with
   |.str b,.int _ l=>match (match hi with|none=>V.int .i64 b.size|some h=>h.ev st) with
    |.int _ h=>0<=l/\l<=h/\h<=b.size/\K' (st.put d (.str (b.extract l.toNat h.toNat)))
    |_=>False
   |_,_=>False):=by
   intro L h
   generalize x.ev st=X at h ⊢
   cases X <;> first|exact h.elim|skip
   cases L <;> first|exact h.elim|skip
   rename_i b _ l
   simp only at h ⊢
   generalize (match hi with|none=>V.int .i64 b.size|some h=>h.ev st)=H at h ⊢
   cases H <;> first|exact h.elim|exact ⟨h.1,h.2.1,h.2.2.1,hK _ h.2.2.2⟩
  exact fun h=>key _ h
 |mks s bytes z n mode =>
  simp only [eff] at h ⊢
  generalize n.ev st=N at h ⊢
  cases N <;> first|exact h.elim|skip
  rename_i k m
  cases k <;> first|exact h.elim|exact ⟨h.1,h.2.1,h.2.2.1,newSl_mono h.2.2.2 hK⟩
 |mkf f first caps=>exact hK _ h
 |max x y =>
  simp only [eff] at h ⊢
  generalize x.ev st=X at h ⊢
  generalize y.ev st=Y at h ⊢
  cases X <;> first|exact h.elim|skip
  cases Y <;> first|exact h.elim|exact ⟨h.1,hK _ h.2⟩
 |min x y =>
  simp only [eff] at h ⊢
  generalize x.ev st=X at h ⊢
  generalize y.ev st=Y at h ⊢
  cases X <;> first|exact h.elim|skip
  cases Y <;> first|exact h.elim|exact ⟨h.1,hK _ h.2⟩
 |call f args objs=>exact call_mono h hK
 |cut s x hi mode =>
  rw [eff_cut] at h ⊢
  generalize x.ev st=X at h ⊢
  generalize hi.ev st=Y at h ⊢
  cases X <;> first|exact h.elim|skip
  cases Y <;> first|exact h.elim|skip
  rename_i r _ _ _ _
  simp only at h ⊢
  generalize st.heap r=O at h ⊢
  cases O <;> first|exact h.elim|skip
  obtain ⟨q1,q2,q3,q4,q5,h⟩:=h
  refine ⟨q1,q2,q3,q4,q5,?_⟩
  cases mode with
  |none=>exact hK _ h
  |some r'=>exact ⟨h.1,hK _ h.2⟩
 |clr s z x =>
  simp only [eff] at h ⊢
  generalize x.ev st=X at h ⊢
  cases X <;> first|exact h.elim|skip
  rename_i r _ _
  simp only at h ⊢
  generalize st.heap r=O at h ⊢
  cases O <;> first|exact h.elim|exact ⟨h.1,hK _ h.2⟩
 |callp f args cands =>
  have e:∀ K,eff P (.callp f args cands) d st K=(match firstDead st cands with|some r=>call P f args [r] d st K|none=>False):=fun _=>rfl
  rw [e] at h ⊢
  cases hf:firstDead st cands with
  |none=>rw [hf] at h; exact h.elim
  |some r=>rw [hf] at h; exact call_mono h hK
 |calln x args objs =>
  simp only [eff] at h ⊢
  split at h
  ·exact ⟨h.1,h.2.1,h.2.2.1,call_mono h.2.2.2 hK⟩
  ·exact h.elim
 |nilchk x =>
  simp only [eff] at h ⊢
  split at h
  all_goals first|exact h.elim|exact hK _ h
theorem effG_mono {o:Op'} (h:effG P o st K) (hK:∀ s,K s->K' s):effG P o st K':=by
 unfold effG at h ⊢
 cases hg:o.guard with
 |none=>rw [hg] at h; exact eff_mono h hK
 |some x =>
  obtain ⟨t,w⟩:=x
  rw [hg] at h
  simp only at h ⊢
  generalize st.env t=T at h ⊢
  cases T <;> first|exact h.elim|exact ⟨fun e=>eff_mono (h.1 e) hK,fun e=>hK _ (h.2 e)⟩|skip
  rename_i vs
  cases vs <;> first|exact h.elim|exact hK _ h
theorem wpOpsD_mono:∀ {l:List (Op'×Nat)} {st:St} {K K':St->Prop},wpOpsD P l st K->(∀ s,K s->K' s)->wpOpsD P l st K'
 |[],_,_,_,h,hK=>hK _ h
 |_::_,_,_,_,h,hK=>⟨h.1,effG_mono h.2 fun _ h'=>wpOpsD_mono h' hK⟩
theorem wpOpsD_append:∀ {l m:List (Op'×Nat)} {st:St} {K:St->Prop},wpOpsD P (l ++ m) st K↔wpOpsD P l st fun s=>wpOpsD P m s K
 |[],_,_,_=>Iff.rfl
 |_::_,_,_,_=>⟨fun h=>⟨h.1,effG_mono h.2 fun _ h'=>wpOpsD_append.1 h'⟩,fun h=>⟨h.1,effG_mono h.2 fun _ h'=>wpOpsD_append.2 h'⟩⟩
end Go.Ab

namespace Go.Ab
open Go
variable {E:Ent} {n:Sz} {C:Ctx} {st:St} {a:Act} {P:Program}
inductive Script (P:Program):List (Op'×Nat)->St->St->Prop where
 |nil {st:St}:Script P [] st st
 |cons {x:Op'×Nat} {l:List (Op'×Nat)} {st st':St} {v:V} {news:List (Nat×AO)} (hd:Does P (nrm x.2) x.1 st v news) (hq:SideD x st) (t:Script P l ((st.sets news).put x.1.dst v) st'):Script P (x::l) st st'
theorem okClass_nrm {o:O} {c:Nat} (h:okClass o c=true):okClass o (nrm c)=true:=by
 unfold nrm
 split
 ·rfl
 ·rfl
 ·exact h
 ·exact h
theorem SideD.quiet {x:Op'×Nat} (h:SideD x st) (hc:okClass x.1.op x.2=true) (h1:nrm x.2=1):quiet x.1 st:=by
 unfold nrm at h1
 split at h1
 ·rename_i h4
  rw [h4] at hc
  obtain ⟨⟨d,o,g⟩,c⟩:=x
  cases o <;> first|(cases hc; done)|trivial
 ·rename_i h4
  rw [h4] at hc
  obtain ⟨⟨d,o,g⟩,c⟩:=x
  cases o <;> first|(cases hc; done)|trivial
 ·cases h1
 ·exact h.one h1
theorem pre_run:∀ (pre:List (Op'×Nat)) {tail:List (Op'×Nat)} {st:St} {K:St->Prop},(∀ x∈pre,(nrm x.2=0\/nrm x.2=1\/nrm x.2=2)/\okClass x.1.op x.2=true)->wpOpsD P (pre ++ tail) st K ->
  ∃ st',wpOpsD P tail st' K/\Script P pre st st'
 |[],_,st,_,_,h=>⟨st,h,.nil⟩
 |x::l,tail,st,K,hp,h=>by
  obtain ⟨h1,h2⟩:=hp x (by simp)
  simp only [List.cons_append,wpOpsD] at h
  obtain ⟨v,news,h3,h4⟩:=effG_does h1 (okClass_nrm h2) (h.1.quiet h2) h.2
  obtain ⟨st',h5,h6⟩:=pre_run l (fun y hy=>hp y (by simp [hy])) h3
  exact ⟨st',h5,.cons h4 h.1 h6⟩
theorem Script.env {l:List (Op'×Nat)} {st st':St} (h:Script P l st st') {t:Nat} (ht:∀ x∈l,x.1.dst≠some t):st'.env t=st.env t:=by
 induction h with
 |nil=>rfl
 |cons _ _ _ ih =>
  rw [ih fun y hy=>ht y (by simp [hy]),put_env (ht _ (by simp)),sets_env]
theorem Script.heap {l:List (Op'×Nat)} {st st':St} (h:Script P l st st') (hc:∀ x∈l,nrm x.2=0\/nrm x.2=1) {r:Nat} (hr:(st.heap r).isDead=false):st'.heap r=st.heap r:=by
 induction h with
 |nil=>rfl
 |cons hd hq t ih =>
  rename_i x l st st' v news
  have e:((st.sets news).put x.1.dst v).heap r=st.heap r:=by
   rw [put_heap]
   refine sets_heap_not _ _ _ fun y hy e=>?_
   rcases hc x (by simp) with h0|h1
   ·rw [hd.pure h0] at hy; simp at hy
   ·have:=(hd.quiet h1).2 y.1 (List.mem_map_of_mem hy)
    rw [e,hr] at this; cases this
  rw [ih (fun y hy=>hc y (by simp [hy])) (by rw [e]; exact hr),e]
theorem Script.heap0 {l:List (Op'×Nat)} {st st':St} (h:Script P l st st') (hc:∀ x∈l,nrm x.2=0):st'.heap=st.heap:=by
 induction h with
 |nil=>rfl
 |cons hd _ _ ih =>
  rw [ih fun y hy=>hc y (by simp [hy]),put_heap,hd.pure (hc _ (by simp))]
  rfl
theorem quiet_same {o:Op'} {st st':St} (h:∀ t∈o.looks,st'.env t=st.env t) (hq:quiet o st):quiet o st':=by
 have he:=ev_same h
 obtain ⟨d,q,g⟩:=o
 cases q with
 |app s b x y m =>
  obtain ⟨s',hs⟩:=hq
  exact ⟨s',(he x (by simp [O.xs])).trans hs⟩
 |_=>exact hq
theorem SideD.three {o:Op'}:SideD (o,3) st:=⟨fun e=>(by cases e),fun e=>(by cases e),fun e=>(by cases e),fun e=>(by cases e)⟩
theorem SideD.zero {o:Op'}:SideD (o,0) st:=⟨fun e=>(by cases e),fun e=>(by cases e),fun e=>(by cases e),fun e=>(by cases e)⟩
theorem SideD.same {x:Op'×Nat} {st':St} (h:∀ t∈x.1.looks,st'.env t=st.env t) (hb:x.2=4->∀ r cs,st.heap r=.box cs->st'.heap r=.box cs) (hs:SideD x st):SideD x st':=by
 have he:=ev_same h
 refine ⟨fun e=>quiet_same h (hs.one e),fun e=>?_,fun e=>?_,fun e=>?_⟩
 ·have:=hs.four e
  obtain ⟨⟨d,o,g⟩,c⟩:=x
  cases o <;> first|exact this|skip
  all_goals
   simp only [boxedB] at this ⊢
   rw [he _ (by simp [O.xs])]
   split at this
   ·rename_i r off hz
    split at this
    ·rename_i cs hr
     rw [hb e r cs hr]
     try exact this
    ·cases this
   ·rfl
   ·cases this
 ·have:=hs.five e
  obtain ⟨⟨d,o,g⟩,c⟩:=x
  cases o <;> first|exact this|skip
  simp only [rowedB] at this ⊢
  rw [he _ (by simp [O.xs])]; exact this
 ·have:=hs.six e
  obtain ⟨⟨d,o,g⟩,c⟩:=x
  cases o <;> first|exact this|skip
  simp only [slicedB] at this ⊢
  rw [he _ (by simp [O.xs])]; exact this
theorem apartO_spec {x y:Op'} (h:apartO x y=true):(∀ d,x.dst=some d->d∉y.looks)/\(∀ d,x.dst=some d->y.dst≠some d)/\(∀ d,y.dst=some d->d∉x.looks)/\∀ r∈x.op.names,r∉y.op.names:=by
 unfold apartO at h
 simp only [Bool.and_eq_true,List.all_eq_true,Bool.not_eq_true'] at h
 obtain ⟨⟨h1,h2⟩,h3⟩:=h
 refine ⟨fun d hd hm=>?_,fun d hd=>?_,fun d hd hm=>?_,fun r hr hm=>?_⟩
 ·rw [hd] at h1; simp only [Bool.and_eq_true,Bool.not_eq_true'] at h1; rw [inl_iff.2 hm] at h1; simp at h1
 ·rw [hd] at h1; simp only [Bool.and_eq_true,bne_iff_ne] at h1; exact h1.2
 ·rw [hd] at h2; simp only [Bool.not_eq_true'] at h2; rw [inl_iff.2 hm] at h2; cases h2
 ·have:=h3 r hr; rw [inl_iff.2 hm] at this; cases this
theorem okPair_spec {x c:Nat} (h:okPair x c=true):(x=0/\c=0)\/(x=0/\c=1)\/(x=1/\c=0)\/(x=1/\c=1)\/(x=0/\c=2)\/(x=2/\c=0):=by
 unfold okPair at h
 split at h <;> simp_all
theorem Script.replay {c:Nat} {o:Op'} {si:List (Nat×AO)} {vi:V} (h0:c=0->si=[]) (h1:c=1->∀ y∈si,y.1∈o.op.names) {l:List (Op'×Nat)} {st st':St} (h:Script P l st st')
  (hp:∀ x∈l,okPair (nrm x.2) c=true/\apartO x.1 o=true) (hdead:c=1->∀ y∈si,(st'.heap y.1).isDead=true) {tail:List (Op'×Nat)} {K:St->Prop} (hk:wpOpsD P tail ((st'.sets si).put o.dst vi) K) :
  wpOpsD P (l ++ tail) ((st.sets si).put o.dst vi) K:=by
 induction h with
 |nil=>exact hk
 |cons hd hq t ih =>
  rename_i x l s s' v news
  have ih:=ih (fun y hy=>hp y (by simp [hy])) hdead hk
  obtain ⟨hpx,hax⟩:=hp x (by simp)
  obtain ⟨a1,a2,a3,a4⟩:=apartO_spec hax
  have hcls:=okPair_spec hpx
  have hlooks:∀ t∈x.1.looks,((s.sets si).put o.dst vi).env t=s.env t:=fun t ht=>by
   rw [put_env (fun e=>a3 t e ht),sets_env]
  -- what is dead behind all is dead ahead
  have hdead':c=1->∀ y∈si,(s.heap y.1).isDead=true:=fun hc y hy=>by
   have hall:∀ z∈x::l,nrm z.2=0\/nrm z.2=1:=fun z hz=>by
    have:=okPair_spec (hp z hz).1
    omega
   by_cases hl:(s.heap y.1).isDead=true
   ·exact hl
   ·have hl':(s.heap y.1).isDead=false:=by simpa using hl
    have e:=(Script.cons (x:=x) hd hq t).heap hall hl'
    have:=hdead hc y hy
    rw [e] at this; exact this
  have hheap:c≠2->∀ r,(s.heap r).isDead=false->((s.sets si).put o.dst vi).heap r=s.heap r:=fun hc r hr=>by
   rw [put_heap]
   refine sets_heap_not _ _ _ fun y hy e=>?_
   have:c=0\/c=1:=by omega
   rcases this with h|h
   ·rw [h0 h] at hy; simp at hy
   ·have:=hdead' h y hy
    rw [e,hr] at this; cases this
  simp only [List.cons_append,wpOpsD]
  refine ⟨hq.same hlooks fun e r cs hr=>by
   have h4:nrm x.2=1:=by rw [e]; rfl
   rw [hheap (by omega) r (by rw [hr]; rfl)]; exact hr,?_⟩
  refine hd.again _ ⟨hlooks,fun hx z hz r hr hl=>hheap (by omega) r hl,fun hx=>?_⟩ (fun _ _ _ _=>trivial) (fun hx r hr hdr=>?_) _ ?_
  ·have:c=0:=by omega
   rw [put_heap,h0 this]; rfl
  ·rw [put_heap]
   have:c=0\/c=1:=by omega
   rcases this with h|h
   ·rw [h0 h]; exact hdr
   ·rw [sets_heap_not _ si r fun y hy e=>a4 r hr (by rw [<- e]; exact h1 h y hy)]; exact hdr
  ·rw [effects_comm s (l:=si) (m:=news) (d:=o.dst) (e:=x.1.dst) (fun y hy z hz e=>?_) (fun t ht e=>a2 t e ht)]
   ·exact ih
   ·have:(c=0\/nrm x.2=0)\/(c=1/\nrm x.2=1):=by omega
    rcases this with (h|h)|⟨hc,hx⟩
    ·rw [h0 h] at hy; simp at hy
    ·rw [hd.pure h] at hz; simp at hz
    ·exact a4 z.1 ((hd.quiet hx).1 z hz).1 (by rw [<- e]; exact h1 hc y hy)
def gd (o:Op') (st:St):Option Bool :=
 match o.guard with
 |none=>some true
 |some (t,w)=>match st.env t with
  |.bool b=>some (b == w)
  |.tup []=>some false
  |_=>none
def doG (P:Program) (o:Op') (st:St) (K:St->Prop):Prop :=
 match gd o st with
 |some true=>eff P o.op o.dst st K
 |some false=>K (st.put o.dst (.tup []))
 |none=>False
theorem effG_iff {o:Op'} {K:St->Prop}:effG P o st K↔doG P o st K:=by
 unfold effG doG gd
 cases hg:o.guard with
 |none=>exact Iff.rfl
 |some x =>
  obtain ⟨t,w⟩:=x
  simp only
  cases hT:st.env t with
  |bool b =>
   simp only
   by_cases hb:b=w
   ·subst hb
    simp only [beq_self_eq_true]
    constructor
    ·intro h; have:=h.1 (by first|rfl|trivial); rwa [put_self hT] at this
    ·intro h; exact ⟨fun _=>by rwa [put_self hT],fun e=>by cases b <;> cases e⟩
   ·have hnb:b=!w:=by cases b <;> cases w <;> simp_all
    have hf:(b == w)=false:=by simpa using hb
    rw [hf]
    constructor
    ·intro h; have:=h.2 hnb; rwa [put_self (by rw [hT,hnb])] at this
    ·intro h; exact ⟨fun e=>absurd e hb,fun _=>by rwa [put_self (by rw [hT,hnb])]⟩
  |tup vs=>cases vs <;> exact Iff.rfl
  |_=>exact Iff.rfl
theorem gd_same {o:Op'} {st':St} (h:∀ t∈o.looks,st'.env t=st.env t):gd o st'=gd o st:=by
 unfold gd
 cases hg:o.guard with
 |none=>rfl
 |some x =>
  obtain ⟨t,w⟩:=x
  simp only
  rw [h t (by simp [Op'.looks,hg])]
theorem kill_bool {p:Nat->Bool} {v:V} {b:Bool} (h:v.kill p=.bool b):v=.bool b:=by
 cases v <;> simp only [V.kill,V.kill1] at h <;> first|(cases h; done)|(split at h <;> first|(cases h; done)|exact h)
theorem kill_tup {p:Nat->Bool} {v:V} (h:v.kill p=.tup []):v=.tup []:=by
 cases v with
 |tup vs=>cases vs <;> first|rfl|simp [V.kill] at h
 |agg cs=>simp [V.kill] at h
 |_=>simp only [V.kill,V.kill1] at h; split at h <;> cases h
theorem gd_kill {o:Op'} {st':St} {p:Nat->Bool} (h:∀ t∈o.looks,st'.env t=(st.env t).kill p) {b:Bool} (hb:gd o st'=some b):gd o st=some b:=by
 unfold gd at *
 cases hg:o.guard with
 |none=>rw [hg] at hb; exact hb
 |some x =>
  obtain ⟨t,w⟩:=x
  rw [hg] at hb
  simp only at hb ⊢
  rw [h t (by simp [Op'.looks,hg])] at hb
  split at hb
  ·rename_i h1; rw [kill_bool h1]; exact hb
  ·rename_i h1; rw [kill_tup h1]; exact hb
  ·cases hb
theorem kill_ptr {p:Nat->Bool} {v:V} {r off:Nat} (h:v.kill p=.ptr r off):v=.ptr r off/\p r=false:=by
 cases v <;> simp only [V.kill,V.kill1] at h <;> first|cases h|skip
 all_goals
  split at h <;> first|cases h|skip
 rename_i hn
 refine ⟨rfl,?_⟩
 simpa [V.has] using hn
theorem eff_loadb {k:Nat} {z:X} {d:Option Nat} {K:St->Prop}:eff P (.loadb k z) d st K↔∃ r off cs,z.ev st=.ptr r off/\st.heap r=.box cs/\off+k<=cs.length/\K (st.put d (pickc true k off cs)):=by
 constructor
 ·intro h
  simp only [eff] at h
  split at h
  ·split at h
   ·rename_i h1 _ _ h2; exact ⟨_,_,_,h1,h2,h.1,h.2⟩
   ·exact h.elim
  ·exact h.elim
 ·rintro ⟨r,off,cs,h1,h2,h3,h4⟩
  simp only [eff,h1,h2]
  exact ⟨h3,h4⟩
theorem eff_appN {s bytes:Nat} {x y:X} {d:Option Nat} {K:St->Prop}:eff P (.app s bytes x y none) d st K↔∃ ys,srcRows st s (y.ev st)=some ys /\
  (
   (∃ s0,x.ev st=.nils s0/\ys.length * bytes<=140737488355328/\K (st.put d (.sl true s ys))) \/
   (∃ r n rs,x.ev st=.sref r 0 n/\st.heap r=.rows s rs/\n=rs.length/\(n+ys.length) * bytes<=140737488355328/\K ((st.kills [r]).put d (.sl true s (rs ++ ys))))):=by
 constructor
 ·intro h
  simp only [eff] at h
  split at h
  ·exact h.elim
  ·rename_i ys hy
   refine ⟨ys,hy,?_⟩
   split at h
   ·rename_i hx; exact .inl ⟨_,hx,h.1,h.2⟩
   ·rename_i r i n hx
    split at h
    ·rename_i s' rs hr
     obtain ⟨rfl,rfl,h3,h4,h5⟩:=h
     exact .inr ⟨r,n,rs,hx,hr,h3,h4,h5⟩
    ·exact h.elim
   ·exact h.elim
 ·rintro ⟨ys,hy,⟨s0,hx,h1,h2⟩|⟨r,n,rs,hx,hr,h1,h2,h3⟩⟩
  ·simp only [eff,hy,hx]; exact ⟨h1,h2⟩
  ·simp only [eff,hy,hx,hr]; exact ⟨by first|rfl|trivial,by first|rfl|trivial,h1,h2,h3⟩
theorem put_comm {st:St} {d e:Option Nat} {v w:V} (h:∀ t,d=some t->e≠some t):(st.put d v).put e w=(st.put e w).put d v:=by
 refine St.ext' (fun i=>?_) (fun i=>by rw [put_heap,put_heap,put_heap,put_heap])
 by_cases h1:d=some i
 ·have h2:=h i h1
  rw [put_env h2]
  subst h1
  simp [St.put,upd]
 ·by_cases h2:e=some i
  ·subst h2
   rw [put_env h1]; simp [St.put,upd]
  ·rw [put_env h2,put_env h1,put_env h1,put_env h2]
theorem kills_put {st:St} {d:Option Nat} {v:V} {r:Nat}:(st.put d v).kills [r]=(st.kills [r]).put d (v.kill (inl [r])):=by
 cases d with
 |none=>rfl
 |some t =>
  refine St.ext' (fun i=>?_) (fun i=>rfl)
  simp only [St.put,St.kills,St.killP,upd]
  split <;> rfl
theorem swap0 {A L:Op'×Nat} (h:swapOk0 A L=true) {l:List (Op'×Nat)} {K:St->Prop} (hk:wpOpsD P (A::L::l) st K):wpOpsD P (L::A::l) st K:=by
 unfold swapOk0 at h
 simp only [Bool.and_eq_true,beq_iff_eq] at h
 obtain ⟨⟨⟨⟨hA,hA3⟩,hL⟩,hL1⟩,hap⟩:=h
 obtain ⟨⟨dA,oA,gA⟩,cA⟩:=A
 obtain ⟨⟨dL,oL,gL⟩,cL⟩:=L
 simp only at hA hA3 hL hL1
 cases oA <;> first|(cases hA; done)|skip
 rename_i s bytes x y mode
 cases mode <;> first|(cases hA; done)|skip
 cases oL <;> first|(cases hL; done)|skip
 rename_i n z
 subst hA3
 obtain ⟨a1,a2,a3,a4⟩:=apartO_spec hap
 simp only at a1 a2 a3
 obtain ⟨_,hk⟩:=hk
 refine ⟨⟨fun _=>trivial,fun e=>(by rw [hL1] at e; cases e),fun e=>(by rw [hL1] at e; cases e),fun e=>(by rw [hL1] at e; cases e)⟩,?_⟩
 rw [effG_iff] at hk ⊢
 -- what L sees,A's slot apart
 have envL:∀ (s0:St) (v:V),∀ t∈(⟨dL,.loadb n z,gL⟩ : Op').looks,(s0.put dA v).env t=s0.env t:=fun s0 v t ht=>put_env fun e=>a1 t e ht
 have envA:∀ (s0:St) (v:V),∀ t∈(⟨dA,.app s bytes x y none,gA⟩ : Op').looks,(s0.put dL v).env t=s0.env t:=fun s0 v t ht=>put_env fun e=>a3 t e ht
 have comm:∀ (s0:St) (v w:V),(s0.put dA v).put dL w=(s0.put dL w).put dA v:=fun s0 v w=>put_comm a2
 -- A,behind L's slot
 have againA:∀ (v:V) (K':St->Prop),(gd ⟨dA,.app s bytes x y none,gA⟩ (st.put dL v))=gd ⟨dA,.app s bytes x y none,gA⟩ st:=fun v K'=>gd_same (envA st v)
 unfold doG at hk
 cases hgA:gd ⟨dA,.app s bytes x y none,gA⟩ st with
 |none=>rw [hgA] at hk; exact hk.elim
 |some bA =>
  rw [hgA] at hk
  cases bA with
  |false =>
   simp only at hk
   obtain ⟨_,hk⟩:=hk
   rw [effG_iff] at hk
   unfold doG at hk ⊢
   rw [gd_same (envL st _)] at hk
   cases hgL:gd ⟨dL,.loadb n z,gL⟩ st with
   |none=>rw [hgL] at hk; exact hk.elim
   |some bL =>
    rw [hgL] at hk
    cases bL with
    |false =>
     simp only at hk ⊢
     refine ⟨SideD.three,?_⟩
     rw [effG_iff]; unfold doG
     rw [againA _ K,hgA]
     simp only
     rw [<- comm]; exact hk
    |true =>
     simp only at hk ⊢
     obtain ⟨r,off,cs,h1,h2,h3,h4⟩:=eff_loadb.1 hk
     rw [ev_same (o:=⟨dL,.loadb n z,gL⟩) (envL st _) z (by simp [O.xs])] at h1
     rw [put_heap] at h2
     refine eff_loadb.2 ⟨r,off,cs,h1,h2,h3,SideD.three,?_⟩
     rw [effG_iff]; unfold doG
     rw [againA _ K,hgA]
     simp only
     rw [<- comm]; exact h4
  |true =>
   simp only at hk
   obtain ⟨ys,hy,hcase⟩:=eff_appN.1 hk
   have evA:∀ (v:V),x.ev (st.put dL v)=x.ev st/\y.ev (st.put dL v)=y.ev st:=fun v =>
    ⟨ev_same (o:=⟨dA,.app s bytes x y none,gA⟩) (envA st v) x (by simp [O.xs]),ev_same (o:=⟨dA,.app s bytes x y none,gA⟩) (envA st v) y (by simp [O.xs])⟩
   have srcA:∀ (v:V),srcRows (st.put dL v) s (y.ev (st.put dL v))=some ys:=fun v=>by
    rw [(evA v).2,<- hy]
    unfold srcRows
    simp only [put_heap]
   rcases hcase with ⟨s0,hx,hb,hk⟩|⟨r,m,rs,hx,hr,hm,hb,hk⟩
   ·obtain ⟨_,hk⟩:=hk
    rw [effG_iff] at hk
    unfold doG at hk ⊢
    rw [gd_same (envL st _)] at hk
    cases hgL:gd ⟨dL,.loadb n z,gL⟩ st with
    |none=>rw [hgL] at hk; exact hk.elim
    |some bL =>
     rw [hgL] at hk
     cases bL with
     |false =>
      simp only at hk ⊢
      refine ⟨SideD.three,?_⟩
      rw [effG_iff]; unfold doG
      rw [againA _ K,hgA]
      simp only
      refine eff_appN.2 ⟨ys,srcA _,.inl ⟨s0,(evA _).1.trans hx,hb,?_⟩⟩
      rw [<- comm]; exact hk
     |true =>
      simp only at hk ⊢
      obtain ⟨q,off,cs,h1,h2,h3,h4⟩:=eff_loadb.1 hk
      rw [ev_same (o:=⟨dL,.loadb n z,gL⟩) (envL st _) z (by simp [O.xs])] at h1
      rw [put_heap] at h2
      refine eff_loadb.2 ⟨q,off,cs,h1,h2,h3,SideD.three,?_⟩
      rw [effG_iff]; unfold doG
      rw [againA _ K,hgA]
      simp only
      refine eff_appN.2 ⟨ys,srcA _,.inl ⟨s0,(evA _).1.trans hx,hb,?_⟩⟩
      rw [<- comm]; exact h4
   ·obtain ⟨_,hk⟩:=hk
    rw [effG_iff] at hk
    have hkl:∀ t∈(⟨dL,.loadb n z,gL⟩ : Op').looks,((st.kills [r]).put dA (.sl true s (rs ++ ys))).env t=(st.env t).kill (inl [r]):=fun t ht=>envL _ _ t ht
    unfold doG at hk ⊢
    cases hgL':gd ⟨dL,.loadb n z,gL⟩ ((st.kills [r]).put dA (.sl true s (rs ++ ys))) with
    |none=>rw [hgL'] at hk; exact hk.elim
    |some bL =>
     rw [hgL'] at hk
     rw [gd_kill hkl hgL']
     cases bL with
     |false =>
      simp only at hk ⊢
      refine ⟨SideD.three,?_⟩
      rw [effG_iff]; unfold doG
      rw [againA _ K,hgA]
      simp only
      refine eff_appN.2 ⟨ys,srcA _,.inr ⟨r,m,rs,(evA _).1.trans hx,by rw [put_heap]; exact hr,hm,hb,?_⟩⟩
      rw [kills_put,<- comm]; exact hk
     |true =>
      simp only at hk ⊢
      obtain ⟨q,off,cs,h1,h2,h3,h4⟩:=eff_loadb.1 hk
      have hz:z.ev st=.ptr q off/\(q == r)=false:=by
       cases z with
       |k v =>
        simp only [X.ev] at h1 ⊢
        refine ⟨h1,?_⟩
        rw [put_heap] at h2
        cases hqr:(q == r) with
        |false=>rfl
        |true =>
         simp only [St.kills,St.killP,inl,hqr,Bool.true_or,if_true] at h2
         cases h2
       |t t0 =>
        simp only [X.ev] at h1 ⊢
        rw [hkl t0 (by simp [Op'.looks,O.xs,X.tmps])] at h1
        obtain ⟨e1,e2⟩:=kill_ptr h1
        exact ⟨e1,by simpa [inl] using e2⟩
      rw [put_heap] at h2
      simp only [St.kills,St.killP,inl,hz.2,Bool.or_false,Bool.false_eq_true,if_false] at h2
      cases hq:st.heap q with
      |box cs0 =>
       rw [hq] at h2
       simp only [AO.kill,AO.box.injEq] at h2
       subst h2
       refine eff_loadb.2 ⟨q,off,cs0,hz.1,hq,by simpa using h3,SideD.three,?_⟩
       rw [effG_iff]; unfold doG
       rw [againA _ K,hgA]
       simp only
       refine eff_appN.2 ⟨ys,srcA _,.inr ⟨r,m,rs,(evA _).1.trans hx,by rw [put_heap]; exact hr,hm,hb,?_⟩⟩
       rw [kills_put,<- comm]
       have e0:(fun i=>i == r)=inl [r]:=by funext i; simp [inl]
       rw [e0] at h4
       have e:pickc true n off (cs0.map (V.kill1 (inl [r])))=(pickc true n off cs0).kill (inl [r]):=by
        simp only [pickc,if_true,V.kill,List.map_drop,List.map_take]
       rw [<- e]; exact h4
      |_=>rw [hq] at h2; simp [AO.kill] at h2
def V.killL (v:V):List Nat->V
 |[]=>v
 |k::l=>v.kill (inl (k::l))
theorem kills_putL {st:St} {d:Option Nat} {v:V}:∀ kl:List Nat,(st.put d v).kills kl=(st.kills kl).put d (v.killL kl)
 |[]=>rfl
 |k :: l=>by
  cases d with
  |none=>rfl
  |some t =>
   refine St.ext' (fun i=>?_) (fun i=>rfl)
   simp only [St.put,St.kills,St.killP,upd,V.killL]
   split <;> rfl
theorem kills_env {st:St} {t:Nat}:∀ kl:List Nat,(st.kills kl).env t=(st.env t).killL kl
 |[]=>rfl
 |_::_=>rfl
theorem put_sets {st:St} {d:Option Nat} {v:V}:∀ l:List (Nat×AO),(st.put d v).sets l=(st.sets l).put d v
 |[]=>rfl
 |(r,o)::l=>by
  have:(st.put d v).set r o=(st.set r o).put d v:=by cases d <;> rfl
  simp only [St.sets]
  rw [this,put_sets l]
def fav (off:Nat):V->Option V
 |.ptr r o=>some (.ptr r (o+off))
 |.rptr r i o=>some (.rptr r i (o+off))
 |.cp cs o=>some (.cp cs (o+off))
 |_=>none
theorem fav_kill {off:Nat} {v w:V} {p:Nat->Bool} (h:fav off (v.kill p)=some w):fav off v=some w/\w.kill p=w:=by
 cases v <;> simp only [V.kill,V.kill1] at h <;> first
  |(cases h; done)
  |skip
 all_goals
  split at h <;> first|(cases h; done)|skip
 all_goals first
  |(simp [fav] at h; done)
  |(
    rename_i hn
    simp only [fav,Option.some.injEq] at h
    subst h
    refine ⟨rfl,?_⟩
    simp only [V.kill,V.kill1]
    rw [if_neg]
    first|(simp [V.has]; done)|simpa [V.has] using hn)
theorem fav_killL {off:Nat} {v w:V}:∀ {kl:List Nat},fav off (v.killL kl)=some w->fav off v=some w/\w.killL kl=w
 |[],h=>⟨h,rfl⟩
 |_::_,h=>fav_kill h
theorem eff_app {s bytes:Nat} {x y:X} {mode:Option Nat} {d:Option Nat} {K:St->Prop} (h:eff P (.app s bytes x y mode) d st K) :
  ∃ kl news v,K (((st.kills kl).sets news).put d v)/\∀ st':St,x.ev st'=x.ev st->y.ev st'=y.ev st->st'.heap=st.heap->∀ K':St->Prop,K' (((st'.kills kl).sets news).put d v)->eff P (.app s bytes x y mode) d st' K':=by
 simp only [eff] at h
 split at h
 ·exact h.elim
 ·rename_i ys hy
  have src:∀ st':St,y.ev st'=y.ev st->st'.heap=st.heap->srcRows st' s (y.ev st')=some ys:=fun st' e1 e2=>by
   rw [e1,<- hy]; unfold srcRows; simp only [e2]
  split at h
  ·rename_i hx
   obtain ⟨h1,h2⟩:=h
   unfold newSl at h2
   cases mode with
   |none =>
    refine ⟨[],[],_,h2,fun st' e1 e2 e3 K' hk=>?_⟩
    simp only [eff,src st' e2 e3,e1,hx]
    exact ⟨h1,hk⟩
   |some r =>
    refine ⟨[],[(r,.rows s ys)],_,h2.2,fun st' e1 e2 e3 K' hk=>?_⟩
    simp only [eff,src st' e2 e3,e1,hx]
    exact ⟨h1,by rw [e3]; exact h2.1,hk⟩
  ·rename_i r i n hx
   split at h
   ·rename_i s' rs hr
    obtain ⟨rfl,rfl,h3,h4,h5⟩:=h
    cases mode with
    |none =>
     refine ⟨[r],[],_,h5,fun st' e1 e2 e3 K' hk=>?_⟩
     simp only [eff,src st' e2 e3,e1,hx,e3,hr]
     exact ⟨trivial,trivial,h3,h4,hk⟩
    |some r' =>
     refine ⟨[r],[(r,.rows s' (rs ++ ys))],_,h5.2,fun st' e1 e2 e3 K' hk=>?_⟩
     simp only [eff,src st' e2 e3,e1,hx,e3,hr]
     exact ⟨trivial,trivial,h3,h4,h5.1,hk⟩
   ·exact h.elim
  ·exact h.elim
theorem gd_killL {o:Op'} {st':St}:∀ {kl:List Nat},(∀ t∈o.looks,st'.env t=(st.env t).killL kl)->∀ {b:Bool},gd o st'=some b->gd o st=some b
 |[],h,b,hb=>by rw [<- gd_same (st:=st) (st':=st') h]; exact hb
 |_::_,h,_,hb=>gd_kill h hb
theorem kills_heap {st':St} (hh:st'.heap=st.heap):∀ l:List Nat,(st'.kills l).heap=(st.kills l).heap
 |[]=>hh
 |k::l=>by simp only [St.kills,St.killP,hh]
theorem sets_heap_eq {s s':St} (h:s'.heap=s.heap):∀ l:List (Nat×AO),(s'.sets l).heap=(s.sets l).heap
 |[]=>h
 |(r,o)::l=>sets_heap_eq (by simp only [St.set,h]) l
theorem flatMap_congr' {α β:Type} {f g:α->List β}:∀ {l:List α},(∀ x∈l,f x=g x)->l.flatMap f=l.flatMap g
 |[],_=>rfl
 |x::l,h=>by rw [List.flatMap_cons,List.flatMap_cons,h x (by simp),flatMap_congr' fun y hy=>h y (by simp [hy])]
theorem gone_same {p:Pm} {st':St} (he:p.x.ev st'=p.x.ev st) (hh:st'.heap=st.heap):p.gone st'=p.gone st:=by
 cases p <;> simp only [Pm.x] at he <;> simp only [Pm.gone,he,hh]
theorem box_same {p:Pm} {st':St} (he:p.x.ev st'=p.x.ev st):p.box st'=p.box st:=by
 cases p <;> simp only [Pm.x] at he <;> simp only [Pm.box,he]
theorem ev_kills {x:X} {st':St} (he:x.ev st'=x.ev st) (l:List Nat):x.ev (st'.kills l)=x.ev (st.kills l):=by
 cases x with
 |k v=>rfl
 |t n =>
  simp only [X.ev] at he ⊢
  rw [kills_env,kills_env,he]
theorem giveC_heap {st':St} (hh:st'.heap=st.heap) (v:V):giveC st' v=giveC st v:=by
 unfold giveC; simp only [hh]
theorem frz_heap {s s':St} (hh:s'.heap=s.heap):∀ (n:Nat) (v:V),frz s' n v=frz s n v
 |0,v=>by unfold frz; cases v <;> rfl
 |n+1,v=>by
  have e:frz s' n=frz s n:=funext (frz_heap hh n)
  cases v <;> simp only [frz,hh,e]
theorem val_same {p:Pm} {st' sr sr':St} (he:p.x.ev st'=p.x.ev st) (hh:st'.heap=st.heap) (hr:p.x.ev sr'=p.x.ev sr) (hrh:sr'.heap=sr.heap):p.val sr' st'=p.val sr st:=by
 cases p <;> simp only [Pm.x] at he hr
 ·simp only [Pm.val,hr,frz_heap hrh]
 ·simp only [Pm.val,he,hh,giveC_heap hh]
 ·simp only [Pm.val,he,giveC_heap hh]
theorem outsOk_same {st':St}:∀ {args:List Pm} {outs:List V},(∀ p∈args,p.x.ev st'=p.x.ev st)->st'.heap=st.heap->outsOk st' args outs=outsOk st args outs
 |[],_,_,_=>rfl
 |p::ps,[],_,_=>by cases p <;> rfl
 |p::ps,o::os,he,hh=>by
  have ih:=outsOk_same (args:=ps) (outs:=os) (fun q hq=>he q (by simp [hq])) hh
  have h0:=he p (by simp)
  cases p <;> simp only [Pm.x] at h0 <;> simp only [outsOk,ih]
  simp only [h0,oldC,hh]
theorem blanks_env {st:St}:∀ (args:List Pm) (s:St),(blanks st args s).env=s.env
 |[],_=>rfl
 |p::ps,s=>by
  cases p <;> simp only [blanks] <;> try exact blanks_env ps s
  split
  ·rw [blanks_env ps]; unfold St.blank; split <;> rfl
  ·exact blanks_env ps s
theorem blanks_same {st':St}:∀ {args:List Pm} {s s':St},(∀ p∈args,p.x.ev st'=p.x.ev st)->st'.heap=st.heap->s'.heap=s.heap->(blanks st' args s').heap=(blanks st args s).heap
 |[],_,_,_,_,h=>h
 |p :: ps,s,s',he,hh,h=>by
  have h0:=he p (by simp)
  have ih:∀ {u u':St},u'.heap=u.heap->(blanks st' ps u').heap=(blanks st ps u).heap:=fun h=>blanks_same (fun q hq=>he q (by simp [hq])) hh h
  cases p <;> simp only [Pm.x] at h0 <;> simp only [blanks] <;> try exact ih h
  rw [h0]
  split
  ·refine ih ?_
   unfold St.blank
   rw [h]
   split
   ·simp only [St.set,h]
   ·exact h
  ·exact ih h
theorem backs_env {st:St}:∀ (args:List Pm) (outs:List V) (s:St),(backs st args outs s).env=s.env
 |[],outs,_=>by cases outs <;> rfl
 |p::ps,[],s=>by cases p <;> rfl
 |p :: ps,o::os,s=>by
  cases p <;> simp only [backs] <;> try exact backs_env ps os s
  split
  ·split
   ·rw [backs_env ps]
    show (St.sets s _).env=s.env
    rw [sets_env]
   ·exact backs_env ps os s
  ·exact backs_env ps os s
theorem backs_same {st':St}:∀ {args:List Pm} {s s':St},(∀ p∈args,p.x.ev st'=p.x.ev st)->st'.heap=st.heap->s'.heap=s.heap->∀ outs,(backs st' args outs s').heap=(backs st args outs s).heap
 |[],_,_,_,_,h,outs=>by cases outs <;> exact h
 |p::ps,s,s',he,hh,h,[]=>by cases p <;> exact h
 |p :: ps,s,s',he,hh,h,o::os=>by
  have h0:=he p (by simp)
  have ih:∀ {u u':St},u'.heap=u.heap->(backs st' ps os u').heap=(backs st ps os u).heap:=fun h=>backs_same (fun q hq=>he q (by simp [hq])) hh h os
  cases p <;> simp only [Pm.x] at h0 <;> simp only [backs] <;> try exact ih h
  rw [h0]
  split
  ·rw [h]
   split
   ·refine ih ?_
    rename_i r off cs' _ _ cs1 _
    have e:oldC st' r off=oldC st r off:=by unfold oldC; rw [hh]
    simp only [St.set,e]
    rw [sets_heap_eq h]
   ·exact ih h
  ·exact ih h
theorem kill1_closed (p:Nat->Bool) (v:V) (h:v.closed=true):v.kill1 p=v:=by
 unfold V.kill1; rw [closed_has p v h]; rfl
theorem map_closed {f:V->V} {l:List V} (hf:∀ v,v.closed=true->f v=v) (h:V.closedL l=true):l.map f=l:=by
 refine (List.map_congr_left fun c hc=>?_).trans (List.map_id l)
 obtain ⟨j,hj⟩:=List.getElem?_of_mem hc
 exact hf c (closedL_all h j c hj)
theorem kill2_closed (p:Nat->Bool) (v:V) (h:v.closed=true):v.kill2 p=v:=by
 cases v with
 |agg cs=>simp only [V.kill2]; rw [map_closed (kill1_closed p) h]
 |_=>exact kill1_closed p _ h
theorem kill_closed (p:Nat->Bool) (v:V) (h:v.closed=true):v.kill p=v:=by
 cases v with
 |agg cs=>simp only [V.kill]; rw [map_closed (kill1_closed p) h]
 |tup vs=>simp only [V.kill]; rw [map_closed (kill2_closed p) h]
 |_=>exact kill1_closed p _ h
theorem firstDead_same {st':St} (hh:st'.heap=st.heap):∀ l:List Nat,firstDead st' l=firstDead st l
 |[]=>rfl
 |r::l=>by simp only [firstDead,hh,firstDead_same hh l]
theorem killL_ptr {r off:Nat} {kl:List Nat} (h:inl kl r=false):(V.ptr r off).killL kl=.ptr r off:=by
 cases kl with
 |nil=>rfl
 |cons k l=>simp only [V.killL,V.kill,V.kill1,V.has,h,Bool.false_eq_true,if_false]
theorem killL_int {v:V} {kl:List Nat} {k:IntKind} {n:Int} (h:v.killL kl=.int k n):v=.int k n:=by
 cases kl with
 |nil=>exact h
 |cons a l=>cases v <;> simp only [V.killL,V.kill,V.kill1] at h <;> first|(cases h; done)|(split at h <;> first|(cases h; done)|exact h)
theorem killL_fn {v:V} {kl:List Nat} {f:FuncId} {a b:List V} (h:v.killL kl=.fn f a b):v=.fn f a b/\(V.fn f a b).killL kl=.fn f a b:=by
 cases kl with
 |nil=>exact ⟨h,rfl⟩
 |cons c l =>
  have e:v=.fn f a b:=by
   cases v <;> simp only [V.killL,V.kill,V.kill1] at h <;> first|(cases h; done)|(split at h <;> first|(cases h; done)|exact h)
  exact ⟨e,by rw [e] at h; exact h⟩
def Form (P:Program) (q:O) (d:Option Nat) (st:St) (K:St->Prop):Prop :=
 ∃
  (kl:List Nat) (H:Nat->AO) (v:V),K ((⟨(st.kills kl).env,H⟩ : St).put d v) /\
  ∀ st':St,(∀ x∈q.xs,x.ev st'=x.ev st)->st'.heap=st.heap->∀ K':St->Prop,K' ((⟨(st'.kills kl).env,H⟩ : St).put d v)->eff P q d st' K'
theorem app_form {s bytes:Nat} {x y:X} {mode:Option Nat} {d:Option Nat} {K:St->Prop} (h:eff P (.app s bytes x y mode) d st K):Form P (.app s bytes x y mode) d st K:=by
 obtain ⟨kl,news,v,h1,h2⟩:=eff_app h
 refine ⟨kl,((st.kills kl).sets news).heap,v,?_,fun st' he hh K' hk=>h2 st' (he x (by simp [O.xs])) (he y (by simp [O.xs])) hh K' ?_⟩
 ·rw [<- sets_env (st.kills kl) news]; exact h1
 ·have e:((st'.kills kl).sets news)=⟨(st'.kills kl).env,((st.kills kl).sets news).heap⟩:=by
   refine St.ext' (fun i=>by rw [sets_env]) (fun i=>?_)
   have e1:(st'.kills kl).heap=(st.kills kl).heap:=kills_heap hh kl
   exact congrFun (sets_heap_eq e1 news) i
  rw [e]; exact hk
theorem call_form {f:FuncId} {args:List Pm} {objs:List Nat} {d:Option Nat} {K:St->Prop} (h:call P f args objs d st K) :
  ∃
   (kl:List Nat) (H:Nat->AO) (v:V),K ((⟨(st.kills kl).env,H⟩ : St).put d v) /\
   ∀ st':St,(∀ p∈args,p.x.ev st'=p.x.ev st)->st'.heap=st.heap->∀ K':St->Prop,K' ((⟨(st'.kills kl).env,H⟩ : St).put d v)->call P f args objs d st' K':=by
 unfold call at h
 obtain ⟨h1,h2,h3,h4,res,outs,fr,h5,h6,h7,h8⟩:=h
 refine ⟨args.flatMap (·.gone st),(((backs st args outs (blanks st args (st.kills (args.flatMap (·.gone st))))).sets (thaw res objs).2.2)).heap,(thaw res objs).1,?_,fun st' he hh K' hk=>?_⟩
 ·have e:(⟨(st.kills (args.flatMap (·.gone st))).env,(((backs st args outs (blanks st args (st.kills (args.flatMap (·.gone st))))).sets (thaw res objs).2.2)).heap⟩ : St)=((backs st args outs (blanks st args (st.kills (args.flatMap (·.gone st))))).sets (thaw res objs).2.2):=by
   refine St.ext' (fun i=>?_) fun i=>rfl
   rw [sets_env,backs_env,blanks_env]
  rw [e]; exact h8
 ·have g1:args.flatMap (·.gone st')=args.flatMap (·.gone st):=flatMap_congr' fun p hp=>gone_same (he p hp) hh
  have g2:args.flatMap (·.box st')=args.flatMap (·.box st):=flatMap_congr' fun p hp=>box_same (he p hp)
  have sr:∀ l:List Nat,∀ p∈args,p.x.ev (st'.kills l)=p.x.ev (st.kills l):=fun l p hp=>ev_kills (he p hp) l
  have gv:∀ l:List Nat,∀ p∈args,p.val (st'.kills l) st'=p.val (st.kills l) st:=fun l p hp=>val_same (he p hp) hh (sr l p hp) (kills_heap hh l)
  unfold call
  rw [g1,g2]
  refine ⟨h1,h2,by rw [hh]; exact h3,?_,res,outs,fr,?_,?_,by rw [outsOk_same he hh]; exact h7,?_⟩
  ·rw [all_congr' (g:=fun p=>p.ok (st.kills (args.flatMap (·.gone st) ++ args.flatMap (·.box st))) st) fun p hp=>by unfold Pm.ok; rw [gv _ p hp]]; exact h4
  ·rw [List.map_congr_left (gv _)]; exact h5
  ·rw [all_congr' (g:=fun p=>p.plain (st.kills (args.flatMap (·.gone st) ++ args.flatMap (·.box st)))) fun p hp=>by
    cases p with
    |ro x=>simp only [Pm.plain]; rw [show x.ev _=x.ev _ from sr _ _ hp]
    |_=>rfl]
   exact h6
  ·have e:(backs st' args outs (blanks st' args (st'.kills (args.flatMap (·.gone st))))).sets (thaw res objs).2.2=⟨(st'.kills (args.flatMap (·.gone st))).env,(((backs st args outs (blanks st args (st.kills (args.flatMap (·.gone st))))).sets (thaw res objs).2.2)).heap⟩:=by
    refine St.ext' (fun i=>by rw [sets_env,backs_env,blanks_env]) fun i=>?_
    exact congrFun (sets_heap_eq (backs_same he hh (blanks_same he hh (kills_heap hh _)) outs) _) i
   rw [e]; exact hk
theorem eff_form {q:O} (hq:formOk q=true) {d:Option Nat} {K:St->Prop} (h:eff P q d st K):Form P q d st K:=by
 cases q <;> simp only [formOk,Bool.false_eq_true] at hq
 ·exact app_form h
 ·simp only [eff] at h
  obtain ⟨kl,H,v,h1,h2⟩:=call_form h
  exact ⟨kl,H,v,h1,fun st' he hh K' hk=>by
   simp only [eff]
   exact h2 st' (fun p hp=>he _ (by simp only [O.xs]; exact List.mem_map_of_mem hp)) hh K' hk⟩
 ·simp only [eff] at h
  split at h
  ·rename_i r hr
   obtain ⟨kl,H,v,h1,h2⟩:=call_form h
   exact ⟨kl,H,v,h1,fun st' he hh K' hk=>by
    simp only [eff]
    rw [firstDead_same hh,hr]
    exact h2 st' (fun p hp=>he _ (by simp only [O.xs]; exact List.mem_map_of_mem hp)) hh K' hk⟩
  ·exact h.elim
def leadV (q:O) (st:St):Option V :=
 match q with
 |.mv x=>some (x.ev st)
 |.faddr off x=>fav off (x.ev st)
 |.nilchk x=>match x.ev st with
  |.fn f a b=>some (.fn f a b)
  |v=>fav 0 v
 |.iaddr s (some l) x i=>match i.ev st with
  |.int _ n=>if 0<=n/\n.toNat < l then fav (n.toNat * s) (x.ev st) else none
  |_=>none
 |_=>none
theorem eff_lead {q:O} (hq:leadOk q=true) {d:Option Nat} {K:St->Prop}:eff P q d st K↔∃ w,leadV q st=some w/\K (st.put d w):=by
 unfold leadOk at hq
 simp only [Bool.and_eq_true] at hq
 obtain ⟨hq,-⟩:=hq
 cases q <;> try (cases hq; done)
 ·simp [eff,leadV]
 ·simp only [eff,leadV]
  rename_i off z
  cases z.ev st <;> simp [fav]
 ·rename_i s len x i
  cases len with
  |none=>cases hq
  |some l =>
   simp only [eff,leadV]
   cases i.ev st with
   |int k n =>
    dsimp only
    by_cases hn:0<=n/\n.toNat < l
    ·rw [if_pos hn]
     cases x.ev st <;> simp [fav,hn.1,hn.2]
    ·rw [if_neg hn]
     exact ⟨fun h=>absurd ⟨h.1,h.2.1⟩ hn,fun ⟨w,h,_⟩=>by cases h⟩
   |_=>simp
 ·simp only [eff,leadV]
  rename_i z
  cases z.ev st <;> simp [fav]
theorem ev_killL {x:X} (hx:x.okK=true) {st':St} {kl:List Nat} (h:∀ t∈x.tmps,st'.env t=(st.env t).killL kl):x.ev st'=(x.ev st).killL kl:=by
 cases x with
 |t k=>exact h k (by simp [X.tmps])
 |k v =>
  simp only [X.ev]
  cases kl with
  |nil=>rfl
  |cons a l =>
   simp only [V.killL]
   cases v with
   |undef=>rfl
   |_=>exact (kill_closed _ _ hx).symm
theorem lead_kill {q:O} (hq:leadOk q=true) {st':St} {kl:List Nat} {w:V} (h:∀ t∈q.xs.flatMap X.tmps,st'.env t=(st.env t).killL kl) (hw:leadV q st'=some w):∃ u,leadV q st=some u/\u.killL kl=w:=by
 unfold leadOk at hq
 simp only [Bool.and_eq_true,List.all_eq_true] at hq
 obtain ⟨hq,hk⟩:=hq
 have he:∀ x∈q.xs,x.ev st'=(x.ev st).killL kl:=fun x hx=>ev_killL (hk x hx) fun t ht=>h t (List.mem_flatMap.2 ⟨x,hx,ht⟩)
 cases q <;> try (cases hq; done)
 ·rename_i x
  simp only [leadV,Option.some.injEq] at hw ⊢
  exact ⟨_,rfl,by rw [<- hw,he x (by simp [O.xs])]⟩
 ·rename_i off x
  simp only [leadV] at hw ⊢
  rw [he x (by simp [O.xs])] at hw
  exact ⟨w,fav_killL hw⟩
 ·rename_i s len x i
  cases len with
  |none=>cases hq
  |some l =>
   simp only [leadV] at hw ⊢
   rw [he i (by simp [O.xs]),he x (by simp [O.xs])] at hw
   split at hw
   ·rename_i k n hi
    rw [killL_int hi]
    split at hw
    ·rename_i hn
     simp only [hn,and_self,if_true]
     exact ⟨w,fav_killL hw⟩
    ·cases hw
   ·cases hw
 ·rename_i x
  simp only [leadV] at hw ⊢
  rw [he x (by simp [O.xs])] at hw
  split at hw
  ·rename_i f a b hx
   cases hw
   obtain ⟨e1,e2⟩:=killL_fn hx
   exact ⟨_,by rw [e1],e2⟩
  ·rename_i hx
   obtain ⟨e1,e2⟩:=fav_killL hw
   refine ⟨w,?_,e2⟩
   split
   ·rename_i f a b hf; rw [hf] at e1; cases e1
   ·exact e1
theorem gd_of {o:Op'} {kl:List Nat} {st':St} (h:∀ t∈o.looks,st'.env t=(st.env t).killL kl) {b:Bool} (hb:gd o st=some b):gd o st'=some b:=by
 unfold gd at *
 cases hg:o.guard with
 |none=>rw [hg] at hb; exact hb
 |some x =>
  obtain ⟨t,w⟩:=x
  rw [hg] at hb
  simp only at hb ⊢
  rw [h t (by simp [Op'.looks,hg])]
  split at hb
  ·rename_i h1; rw [h1]; cases kl <;> exact hb
  ·rename_i h1; rw [h1]; cases kl <;> exact hb
  ·cases hb
theorem doG_form {A:Op'} (hA:formOk A.op=true) {K:St->Prop} (hk:doG P A st K) :
  ∃
   (kl:List Nat) (H:Nat->AO) (v:V),K ((⟨(st.kills kl).env,H⟩ : St).put A.dst v) /\
   ∀ st':St,(∀ t∈A.looks,st'.env t=st.env t)->st'.heap=st.heap->∀ K':St->Prop,K' ((⟨(st'.kills kl).env,H⟩ : St).put A.dst v)->doG P A st' K':=by
 unfold doG at hk
 cases hg:gd A st with
 |none=>rw [hg] at hk; exact hk.elim
 |some b =>
  rw [hg] at hk
  cases b with
  |false =>
   refine ⟨[],st.heap,.tup [],hk,fun st' he hh K' hk'=>?_⟩
   unfold doG
   rw [gd_same he,hg]
   rw [<- hh] at hk'
   exact hk'
  |true =>
   obtain ⟨kl,H,v,h1,h2⟩:=eff_form hA hk
   refine ⟨kl,H,v,h1,fun st' he hh K' hk'=>?_⟩
   unfold doG
   rw [gd_same he,hg]
   exact h2 st' (ev_same he) hh K' hk'
theorem env_put {st:St} {d:Option Nat} {v:V} {kl:List Nat} {H:Nat->AO}:(⟨((st.put d v).kills kl).env,H⟩ : St)=(⟨(st.kills kl).env,H⟩ : St).put d (v.killL kl):=by
 rw [kills_putL]; cases d <;> rfl
theorem swapL {A L:Op'×Nat} (hA3:A.2=3) (hA:formOk A.1.op=true) (hL0:L.2=0) (hL:leadOk L.1.op=true) (hap:apartO A.1 L.1=true) {l:List (Op'×Nat)} {K:St->Prop} (hk:wpOpsD P (A::L::l) st K):wpOpsD P (L::A::l) st K:=by
 obtain ⟨A,cA⟩:=A
 obtain ⟨L,cL⟩:=L
 simp only at hA3 hA hL0 hL hap
 subst hA3 hL0
 obtain ⟨a1,a2,a3,a4⟩:=apartO_spec hap
 obtain ⟨_,hk⟩:=hk
 refine ⟨SideD.zero,?_⟩
 rw [effG_iff] at hk ⊢
 obtain ⟨kl,H,v,⟨_,hk⟩,hagain⟩:=doG_form hA hk
 rw [effG_iff] at hk
 have hlk:∀ t∈L.looks,((⟨(st.kills kl).env,H⟩ : St).put A.dst v).env t=(st.env t).killL kl:=fun t ht=>by
  rw [put_env fun e=>a1 t e ht]; exact kills_env kl
 unfold doG at hk ⊢
 cases hg:gd L ((⟨(st.kills kl).env,H⟩ : St).put A.dst v) with
 |none=>rw [hg] at hk; exact hk.elim
 |some b =>
  rw [hg] at hk
  rw [gd_killL hlk hg]
  have done:∀ w w':V,w.killL kl=w'->wpOpsD P l (((⟨(st.kills kl).env,H⟩ : St).put A.dst v).put L.dst w') K->wpOpsD P ((A,3)::l) (st.put L.dst w) K:=fun w w' hw hk'=>by
   refine ⟨SideD.three,?_⟩
   rw [effG_iff]
   refine hagain _ (fun t ht=>put_env fun e=>a3 t e ht) put_heap _ ?_
   rw [env_put,hw,<- put_comm a2]; exact hk'
  cases b with
  |false=>exact done _ _ (by cases kl <;> rfl) hk
  |true =>
   obtain ⟨w,h1,h2⟩:=(eff_lead hL).1 hk
   obtain ⟨u,e1,e2⟩:=lead_kill hL (fun t ht=>hlk t (by simp only [Op'.looks,List.mem_append]; exact .inl ht)) h1
   exact (eff_lead hL).2 ⟨u,e1,done u w e2 h2⟩
theorem swapM {M A:Op'×Nat} (hA3:A.2=3) (hA:formOk A.1.op=true) (hM0:M.2=0) (hM:mvOk M.1.op=true) (hap:apartO M.1 A.1=true) {l:List (Op'×Nat)} {K:St->Prop} (hk:wpOpsD P (M::A::l) st K):wpOpsD P (A::M::l) st K:=by
 obtain ⟨A,cA⟩:=A
 obtain ⟨M,cM⟩:=M
 simp only at hA3 hA hM0 hM hap
 subst hA3 hM0
 obtain ⟨a1,a2,a3,a4⟩:=apartO_spec hap
 obtain ⟨-,hk⟩:=hk
 refine ⟨SideD.three,?_⟩
 rw [effG_iff] at hk ⊢
 have hL:leadOk M.op=true:=by
  unfold mvOk at hM
  simp only [Bool.and_eq_true] at hM
  unfold leadOk
  simp only [Bool.and_eq_true]
  refine ⟨?_,hM.2⟩
  have:=hM.1
  cases hop:M.op <;> rw [hop] at this <;> first|rfl|cases this
 -- ahead: the move's value,then A
 have key:∀ u:V,(wpOpsD P ((A,3)::l) (st.put M.dst u) K)->(∀ (s':St) (kl:List Nat),(∀ t∈M.looks,s'.env t=(st.env t).killL kl)->∀ K':St->Prop,K' (s'.put M.dst (u.killL kl))->doG P M s' K')->doG P A st fun s'=>wpOpsD P ((M,0)::l) s' K:=by
  intro u hk hagM
  obtain ⟨-,hk⟩:=hk
  rw [effG_iff] at hk
  obtain ⟨kl,H,v,hk,hagain⟩:=doG_form hA hk
  refine hagain st (fun t ht=>(put_env fun e=>a1 t e ht).symm) put_heap.symm _ ⟨SideD.zero,?_⟩
  rw [effG_iff]
  refine hagM _ kl (fun t ht=>?_) _ ?_
  ·rw [put_env fun e=>a3 t e ht]; exact kills_env kl
  ·rw [env_put] at hk
   rw [<- put_comm a2] ; exact hk
 unfold doG at hk
 cases hg:gd M st with
 |none=>rw [hg] at hk; exact hk.elim
 |some b =>
  rw [hg] at hk
  cases b with
  |false =>
   refine key _ hk fun s' kl he K' hk'=>?_
   unfold doG
   rw [gd_of he hg]
   have e:(V.tup []).killL kl=.tup []:=by cases kl <;> rfl
   rw [e] at hk'; exact hk'
  |true =>
   obtain ⟨w,h1,h2⟩:=(eff_lead hL).1 hk
   refine key w h2 fun s' kl he K' hk'=>?_
   unfold doG
   rw [gd_of he hg]
   refine (eff_lead hL).2 ⟨_,?_,hk'⟩
   unfold mvOk at hM
   simp only [Bool.and_eq_true,List.all_eq_true] at hM
   obtain ⟨hm,hx⟩:=hM
   obtain ⟨dM,oM,gM⟩:=M
   simp only at hm hx h1 ⊢
   cases oM <;> try (cases hm; done)
   rename_i x
   simp only [leadV,Option.some.injEq] at h1 ⊢
   rw [ev_killL (hx x (by simp [O.xs])) fun t ht=>he t (by simp [Op'.looks,O.xs,ht]),h1]
theorem hop0 {x y:Op'×Nat} (hx:okClass x.1.op x.2=true) (hy:okClass y.1.op y.2=true) (hp:okPair (nrm x.2) (nrm y.2)=true) (h0:x.2=0\/y.2=0) (hap:apartO x.1 y.1=true) {l:List (Op'×Nat)} {K:St->Prop} (hk:wpOpsD P (x::y::l) st K):wpOpsD P (y::x::l) st K:=by
 obtain ⟨a1,a2,a3,a4⟩:=apartO_spec hap
 have hc:=okPair_spec hp
 have h0':nrm x.2=0\/nrm y.2=0:=h0.imp (fun e=>by rw [e]; rfl) fun e=>by rw [e]; rfl
 obtain ⟨sx,hk⟩:=hk
 obtain ⟨v,nx,⟨sy,hk⟩,dx⟩:=effG_does (by omega) (okClass_nrm hx) (sx.quiet hx) hk
 obtain ⟨w,ny,hk,dy⟩:=effG_does (by omega) (okClass_nrm hy) (sy.quiet hy) hk
 have hn:nx=[]\/ny=[]:=h0'.imp dx.pure dy.pure
 have ey:∀ t∈y.1.looks,st.env t=((st.sets nx).put x.1.dst v).env t:=fun t ht=>by rw [put_env fun e=>a1 t e ht,sets_env]
 have hxh:nrm y.2≠0->st.heap=((st.sets nx).put x.1.dst v).heap:=fun e=>by
  rw [put_heap,dx.pure (h0'.resolve_right e)]; rfl
 have hyh:nrm x.2≠0->((st.sets ny).put y.1.dst w).heap=st.heap:=fun e=>by
  rw [put_heap,dy.pure (h0'.resolve_left e)]; rfl
 refine ⟨sy.same ey fun e r cs hr=>by rw [hxh (by rw [e]; decide)]; exact hr,dy.again _ ⟨ey,fun e z hz r hr hl=>by rw [hxh (by omega)],fun e=>hxh (by omega)⟩ (fun _ _ _ _=>trivial) (fun e r hr hd=>by rw [hxh (by omega)]; exact hd) _ ⟨sx.same (fun t ht=>?_) fun e r cs hr=>by rw [hyh (by rw [e]; decide)]; exact hr,?_⟩⟩
 ·rw [put_env fun e=>a3 t e ht,sets_env]
 ·refine dx.again _ ⟨fun t ht=>by rw [put_env fun e=>a3 t e ht,sets_env],fun e z hz r hr hl=>by rw [hyh (by omega)],fun e=>hyh (by omega)⟩ (fun _ _ _ _=>trivial) (fun e r hr hd=>by rw [hyh (by omega)]; exact hd) _ ?_
  rw [effects_comm st (l:=ny) (m:=nx) (d:=y.1.dst) (e:=x.1.dst) (fun a ha b hb=>by rcases hn with e|e <;> subst e <;> simp_all) (fun t ht e=>a2 t e ht)]
  exact hk
theorem eff_faddr {off:Nat} {z:X} {d:Option Nat} {K:St->Prop}:eff P (.faddr off z) d st K↔∃ w,fav off (z.ev st)=some w/\K (st.put d w):=by
 simp only [eff]
 cases z.ev st <;> simp [fav]
theorem eff_load_box {agg:Bool} {k:Nat} {x:X} {r off:Nat} (hx:x.ev st=.ptr r off) {d:Option Nat} {K:St->Prop}:eff P (.load agg k x) d st K↔∃ cs,st.heap r=.box cs/\off+k<=cs.length/\K (st.put d (pickc agg k off cs)):=by
 simp only [eff,hx]
 constructor
 ·intro h
  split at h
  ·rename_i cs hh; exact ⟨cs,hh,h.1,h.2⟩
  ·exact h.elim
 ·rintro ⟨cs,h1,h2,h3⟩
  rw [h1]; exact ⟨h2,h3⟩
theorem eff_store_row {k:Nat} {x u:X} {r i off:Nat} (hx:x.ev st=.rptr r i off) {d:Option Nat} {K:St->Prop}:eff P (.store k x u) d st K↔(u.ev st).val=true/\(u.ev st).cells.length=k/\∃ s rs,st.heap r=.rows s rs/\V.closedL (u.ev st).cells=true/\off+k<=s/\K ((st.set r (.rows s (rs.set i (setR (rs.getD i []) off (u.ev st).cells)))).put d .undef):=by
 simp only [eff,hx]
 constructor
 ·rintro ⟨h1,h2,h⟩
  split at h
  ·rename_i s rs hh; exact ⟨h1,h2,s,rs,hh,h⟩
  ·exact h.elim
 ·rintro ⟨h1,h2,s,rs,h3,h4⟩
  rw [h3]; exact ⟨h1,h2,h4⟩
theorem doG_load {x:Op'} (hx:isLoad x.op=true) (hb:boxedB x st=true) {K:St->Prop} (hk:doG P x st K) :
  ∃ v,K (st.put x.dst v)/\∀ st':St,(∀ t∈x.looks,st'.env t=st.env t)->(∀ r cs,st.heap r=.box cs->st'.heap r=.box cs)->∀ K':St->Prop,K' (st'.put x.dst v)->doG P x st' K':=by
 unfold doG at hk
 cases hg:gd x st with
 |none=>rw [hg] at hk; exact hk.elim
 |some b =>
  rw [hg] at hk
  cases b with
  |false=>exact ⟨_,hk,fun st' he _ K' hk'=>by unfold doG; rw [gd_same he,hg]; exact hk'⟩
  |true =>
   obtain ⟨d,o,g⟩:=x
   cases o <;> try (cases hx; done)
   ·rename_i agg k z
    simp only [boxedB] at hb
    split at hb
    ·rename_i r off hz
     obtain ⟨cs,h1,h2,h3⟩:=(eff_load_box hz).1 hk
     clear hb
     refine ⟨_,h3,fun st' he hh K' hk'=>?_⟩
     unfold doG; rw [gd_same he,hg]
     exact (eff_load_box ((ev_same (o:=⟨d,.load agg k z,g⟩) he z (by simp [O.xs])).trans hz)).2 ⟨cs,hh _ _ h1,h2,hk'⟩
    ·rename_i hz
     simp only [eff,hz] at hk
    ·cases hb
   ·rename_i off z
    obtain ⟨w,h1,h2⟩:=eff_faddr.1 hk
    refine ⟨w,h2,fun st' he _ K' hk'=>?_⟩
    unfold doG; rw [gd_same he,hg]
    exact eff_faddr.2 ⟨w,by rw [ev_same (o:=⟨d,.faddr off z,g⟩) he z (by simp [O.xs])]; exact h1,hk'⟩
theorem doG_row {x:Op'} (hx:isStore x.op=true) (hb:rowedB x st=true) {K:St->Prop} (hk:doG P x st K) :
  ∃ (news:List (Nat×AO)) (v:V),(∀ y∈news,∀ cs,st.heap y.1≠.box cs/\y.2≠.box cs)/\K ((st.sets news).put x.dst v)/\∀ st':St,(∀ t∈x.looks,st'.env t=st.env t)->st'.heap=st.heap->∀ K':St->Prop,K' ((st'.sets news).put x.dst v)->doG P x st' K':=by
 unfold doG at hk
 cases hg:gd x st with
 |none=>rw [hg] at hk; exact hk.elim
 |some b =>
  rw [hg] at hk
  cases b with
  |false=>exact ⟨[],_,by simp,hk,fun st' he _ K' hk'=>by unfold doG; rw [gd_same he,hg]; exact hk'⟩
  |true =>
   obtain ⟨d,o,g⟩:=x
   cases o <;> try (cases hx; done)
   rename_i k z u
   simp only [rowedB] at hb
   split at hb
   ·rename_i r i off hz
    obtain ⟨h1,h2,s,rs,h3,h4,h5,h6⟩:=(eff_store_row hz).1 hk
    refine ⟨[(r,_)],_,fun y hy cs=>?_,h6,fun st' he hh K' hk'=>?_⟩
    ·simp only [List.mem_singleton] at hy; subst hy; rw [h3]; exact ⟨fun e=>(by cases e),fun e=>(by cases e)⟩
    ·unfold doG; rw [gd_same he,hg]
     have hev:=ev_same (o:=⟨d,.store k z u,g⟩) he
     refine (eff_store_row ((hev z (by simp [O.xs])).trans hz)).2 ?_
     rw [hev u (by simp [O.xs])]
     exact ⟨h1,h2,s,rs,by rw [hh]; exact h3,h4,h5,hk'⟩
   ·rename_i hz
    simp only [eff,hz] at hk
    exact hk.2.2.elim
   ·cases hb
theorem news_not_box {r:Nat} {cs:List V}:∀ {news:List (Nat×AO)} {st:St},(∀ y∈news,∀ cs,y.2≠.box cs)->(∃ z∈news,z.1=r)->(st.sets news).heap r≠.box cs
 |[],_,_,⟨_,h,_⟩=>by simp at h
 |(q, o)::l,st,hb,h=>by
  by_cases hl:∃ z∈l,z.1=r
  ·exact news_not_box (news:=l) (fun y hy=>hb y (by simp [hy])) hl
  ·simp only [St.sets]
   rw [sets_heap_not _ l r fun y hy e=>hl ⟨y,hy,e⟩]
   obtain ⟨z,hz,e⟩:=h
   rcases List.mem_cons.1 hz with rfl|hz
   ·simp only at e; subst e
    simp only [St.set,upd,if_true]
    exact hb (q,o) (by simp) cs
   ·exact absurd ⟨z,hz,e⟩ hl
theorem hop45 {x y:Op'×Nat} (hx:okClass x.1.op x.2=true) (hy:okClass y.1.op y.2=true) (hc:(x.2=4/\y.2=5)\/(x.2=5/\y.2=4)) (hap:apartO x.1 y.1=true) {l:List (Op'×Nat)} {K:St->Prop} (hk:wpOpsD P (x::y::l) st K):wpOpsD P (y::x::l) st K:=by
 obtain ⟨a1,a2,a3,a4⟩:=apartO_spec hap
 obtain ⟨sx,hk⟩:=hk
 rw [effG_iff] at hk
 rcases hc with ⟨hx4,hy5⟩|⟨hx5,hy4⟩
 ·rw [hx4] at hx
  rw [hy5] at hy
  obtain ⟨v,⟨sy,hk⟩,agx⟩:=doG_load hx (sx.four hx4) hk
  rw [effG_iff] at hk
  obtain ⟨news,w,hb,hk,agy⟩:=doG_row hy (sy.five hy5) hk
  have ey:∀ t∈y.1.looks,st.env t=(st.put x.1.dst v).env t:=fun t ht=>(put_env fun e=>a1 t e ht).symm
  have hbx:∀ r cs,st.heap r=.box cs->((st.sets news).put y.1.dst w).heap r=.box cs:=fun r cs hr=>by
   rw [put_heap,sets_heap_not _ _ _ fun z hz e=>(hb z hz cs).1 (by rw [put_heap,e]; exact hr)]; exact hr
  refine ⟨sy.same ey fun e=>(by rw [hy5] at e; cases e),effG_iff.2 (agy st ey put_heap.symm _ ⟨sx.same (fun t ht=>by rw [put_env fun e=>a3 t e ht,sets_env]) fun _=>hbx,effG_iff.2 (agx _ (fun t ht=>by rw [put_env fun e=>a3 t e ht,sets_env]) hbx _ ?_)⟩)⟩
  ·rw [put_sets,put_comm a2] at hk; exact hk
 ·rw [hx5] at hx
  rw [hy4] at hy
  obtain ⟨news,w,hb,⟨sy,hk⟩,agx⟩:=doG_row hx (sx.five hx5) hk
  rw [effG_iff] at hk
  obtain ⟨v,hk,agy⟩:=doG_load hy (sy.four hy4) hk
  have ey:∀ t∈y.1.looks,st.env t=((st.sets news).put x.1.dst w).env t:=fun t ht=>by rw [put_env fun e=>a1 t e ht,sets_env]
  have hbx:∀ r cs,((st.sets news).put x.1.dst w).heap r=.box cs->st.heap r=.box cs:=fun r cs hr=>by
   rw [put_heap] at hr
   by_cases hin:∃ z∈news,z.1=r
   ·obtain ⟨z,hz,rfl⟩:=hin
    exact absurd hr (news_not_box (fun y hy cs=>(hb y hy cs).2) ⟨z,hz,rfl⟩)
   ·rw [sets_heap_not _ _ _ fun z hz e=>hin ⟨z,hz,e⟩] at hr; exact hr
  refine ⟨sy.same ey fun _=>hbx,effG_iff.2 (agy st ey hbx _ ⟨sx.same (fun t ht=>put_env fun e=>a3 t e ht) fun e=>(by rw [hx5] at e; cases e),effG_iff.2 (agx _ (fun t ht=>put_env fun e=>a3 t e ht) put_heap _ ?_)⟩)⟩
  rw [put_sets,<- put_comm a2]; exact hk
theorem doG_sl {x:Op'} (hx:isSlice x.op=true) (hb:slicedB x st=true) {K:St->Prop} (hk:doG P x st K) :
  ∃ v,K (st.put x.dst v)/\∀ st':St,(∀ t∈x.looks,st'.env t=st.env t)->∀ K':St->Prop,K' (st'.put x.dst v)->doG P x st' K':=by
 unfold doG at hk
 cases hg:gd x st with
 |none=>rw [hg] at hk; exact hk.elim
 |some b =>
  rw [hg] at hk
  cases b with
  |false=>exact ⟨_,hk,fun st' he K' hk'=>by unfold doG; rw [gd_same he,hg]; exact hk'⟩
  |true =>
   obtain ⟨d,o,g⟩:=x
   cases o <;> try (cases hx; done)
   rename_i s z lo hi
   simp only [slicedB] at hb
   split at hb
   ·rename_i f s' rows hz
    cases lo with
    |none =>
     cases hi with
     |none =>
      simp only [eff,hz] at hk
      obtain ⟨q1,q2,q3,q4,q5⟩:=hk
      refine ⟨_,q5,fun st' he K' hk'=>?_⟩
      have hs:=ev_same he
      simp only [O.xs,Option.toList,List.append_nil,List.cons_append,List.nil_append,List.mem_cons,List.not_mem_nil,or_false,forall_eq_or_imp,forall_eq] at hs
      unfold doG; rw [gd_same he,hg]
      simp only [eff,hs,hz]
      exact ⟨q1,q2,q3,q4,hk'⟩
     |some u =>
      simp only [eff,hz] at hk
      cases hu:u.ev st <;> simp only [hu] at hk
      obtain ⟨q1,q2,q3,q4,q5⟩:=hk
      refine ⟨_,q5,fun st' he K' hk'=>?_⟩
      have hs:=ev_same he
      simp only [O.xs,Option.toList,List.append_nil,List.cons_append,List.nil_append,List.mem_cons,List.not_mem_nil,or_false,forall_eq_or_imp,forall_eq] at hs
      unfold doG; rw [gd_same he,hg]
      simp only [eff,hs,hz,hu]
      exact ⟨q1,q2,q3,q4,hk'⟩
    |some l =>
     cases hi with
     |none =>
      simp only [eff,hz] at hk
      cases hl:l.ev st <;> simp only [hl] at hk
      obtain ⟨q1,q2,q3,q4,q5⟩:=hk
      refine ⟨_,q5,fun st' he K' hk'=>?_⟩
      have hs:=ev_same he
      simp only [O.xs,Option.toList,List.append_nil,List.cons_append,List.nil_append,List.mem_cons,List.not_mem_nil,or_false,forall_eq_or_imp,forall_eq] at hs
      unfold doG; rw [gd_same he,hg]
      simp only [eff,hs,hz,hl]
      exact ⟨q1,q2,q3,q4,hk'⟩
     |some u =>
      simp only [eff,hz] at hk
      cases hl:l.ev st <;> simp only [hl] at hk
      cases hu:u.ev st <;> simp only [hu] at hk
      obtain ⟨q1,q2,q3,q4,q5⟩:=hk
      refine ⟨_,q5,fun st' he K' hk'=>?_⟩
      have hs:=ev_same he
      simp only [O.xs,Option.toList,List.append_nil,List.cons_append,List.nil_append,List.mem_cons,List.not_mem_nil,or_false,forall_eq_or_imp,forall_eq] at hs
      unfold doG; rw [gd_same he,hg]
      simp only [eff,hs,hz,hl,hu]
      exact ⟨q1,q2,q3,q4,hk'⟩
   ·rename_i hz
    simp only [eff,hz] at hk
   ·cases hb
theorem hop6 {x y:Op'×Nat} (hx:okClass x.1.op x.2=true) (hy:okClass y.1.op y.2=true) (hc:(x.2=6/\nrm y.2=2)\/(nrm x.2=2/\y.2=6)) (hap:apartO x.1 y.1=true) {l:List (Op'×Nat)} {K:St->Prop} (hk:wpOpsD P (x::y::l) st K):wpOpsD P (y::x::l) st K:=by
 obtain ⟨a1,a2,a3,a4⟩:=apartO_spec hap
 obtain ⟨sx,hk⟩:=hk
 rcases hc with ⟨h6,h2⟩|⟨h2,h6⟩
 ·rw [h6] at hx
  rw [effG_iff] at hk
  obtain ⟨v,⟨sy,hk⟩,agx⟩:=doG_sl hx (sx.six h6) hk
  obtain ⟨w,ny,hk,dy⟩:=effG_does (.inr (.inr h2)) (okClass_nrm hy) (sy.quiet hy) hk
  have ey:∀ t∈y.1.looks,st.env t=(st.put x.1.dst v).env t:=fun t ht=>(put_env fun e=>a1 t e ht).symm
  refine ⟨sy.same ey fun e=>(by rw [e] at h2; cases h2),dy.again _ ⟨ey,fun e=>(by rw [h2] at e; cases e),fun _=>put_heap.symm⟩ (fun _ _ _ _=>trivial) (fun e=>(by rw [h2] at e; cases e)) _ ⟨sx.same (fun t ht=>by rw [put_env fun e=>a3 t e ht,sets_env]) fun e=>(by rw [h6] at e; cases e),effG_iff.2 (agx _ (fun t ht=>by rw [put_env fun e=>a3 t e ht,sets_env]) _ ?_)⟩⟩
  rw [put_sets,put_comm a2] at hk; exact hk
 ·rw [h6] at hy
  obtain ⟨w,nx,⟨sy,hk⟩,dx⟩:=effG_does (.inr (.inr h2)) (okClass_nrm hx) (sx.quiet hx) hk
  rw [effG_iff] at hk
  obtain ⟨v,hk,agy⟩:=doG_sl hy (sy.six h6) hk
  have ey:∀ t∈y.1.looks,st.env t=((st.sets nx).put x.1.dst w).env t:=fun t ht=>by rw [put_env fun e=>a1 t e ht,sets_env]
  refine ⟨sy.same ey fun e=>(by rw [h6] at e; cases e),effG_iff.2 (agy st ey _ ⟨sx.same (fun t ht=>put_env fun e=>a3 t e ht) fun e=>(by rw [e] at h2; cases h2),dx.again _ ⟨fun t ht=>put_env fun e=>a3 t e ht,fun e=>(by rw [h2] at e; cases e),fun _=>put_heap⟩ (fun _ _ _ _=>trivial) (fun e=>(by rw [h2] at e; cases e)) _ ?_⟩)⟩
  rw [put_sets,<- put_comm a2]; exact hk
structure AppH (st:St) (kl:List Nat) (news:List (Nat×AO)):Prop where
 kl:∀ k∈kl,∃ s rs,st.heap k=.rows s rs
 news:∀ y∈news,∀ cs,st.heap y.1≠.box cs
theorem eff_appH {s bytes:Nat} {x y:X} {mode:Option Nat} {d:Option Nat} {K:St->Prop} (h:eff P (.app s bytes x y mode) d st K) :
  ∃ kl news v,AppH st kl news/\K (((st.kills kl).sets news).put d v)/\∀ st':St,x.ev st'=x.ev st->y.ev st'=y.ev st->st'.heap=st.heap->∀ K':St->Prop,K' (((st'.kills kl).sets news).put d v)->eff P (.app s bytes x y mode) d st' K':=by
 simp only [eff] at h
 split at h
 ·exact h.elim
 ·rename_i ys hy
  have src:∀ st':St,y.ev st'=y.ev st->st'.heap=st.heap->srcRows st' s (y.ev st')=some ys:=fun st' e1 e2=>by
   rw [e1,<- hy]; unfold srcRows; simp only [e2]
  split at h
  ·rename_i hx
   obtain ⟨h1,h2⟩:=h
   unfold newSl at h2
   cases mode with
   |none =>
    refine ⟨[],[],_,⟨by simp,by simp⟩,h2,fun st' e1 e2 e3 K' hk=>?_⟩
    simp only [eff,src st' e2 e3,e1,hx]
    exact ⟨h1,hk⟩
   |some r =>
    refine ⟨[],[(r,.rows s ys)],_,⟨by simp,fun y hy cs e=>?_⟩,h2.2,fun st' e1 e2 e3 K' hk=>?_⟩
    ·simp only [List.mem_singleton] at hy; subst hy
     have:=h2.1
     rw [e] at this; cases this
    ·simp only [eff,src st' e2 e3,e1,hx]
     exact ⟨h1,by rw [e3]; exact h2.1,hk⟩
  ·rename_i r i n hx
   split at h
   ·rename_i s' rs hr
    obtain ⟨rfl,rfl,h3,h4,h5⟩:=h
    cases mode with
    |none =>
     refine ⟨[r],[],_,⟨by simpa using ⟨_,_,hr⟩,by simp⟩,h5,fun st' e1 e2 e3 K' hk=>?_⟩
     simp only [eff,src st' e2 e3,e1,hx,e3,hr]
     exact ⟨trivial,trivial,h3,h4,hk⟩
    |some r' =>
     obtain ⟨rfl,h5⟩:=h5
     refine ⟨[r'],[(r',.rows s' (rs ++ ys))],_,⟨by simpa using ⟨_,_,hr⟩,fun y hy cs e=>?_⟩,h5,fun st' e1 e2 e3 K' hk=>?_⟩
     ·simp only [List.mem_singleton] at hy; subst hy; rw [hr] at e; cases e
     ·simp only [eff,src st' e2 e3,e1,hx,e3,hr]
      exact ⟨trivial,trivial,h3,h4,trivial,hk⟩
   ·exact h.elim
  ·exact h.elim
theorem AppH.box {kl:List Nat} {news:List (Nat×AO)} (h:AppH st kl news) {r:Nat} {cs:List V} (hr:st.heap r=.box cs):inl kl r=false/\((st.kills kl).sets news).heap r=.box (match kl with|[]=>cs|k::l=>cs.map (V.kill1 (inl (k::l)))):=by
 have hk:inl kl r=false:=by
  cases e:inl kl r with
  |false=>rfl
  |true =>
   obtain ⟨s,rs,h1⟩:=h.kl r (inl_iff.1 e)
   rw [hr] at h1; cases h1
 refine ⟨hk,?_⟩
 rw [sets_heap_not _ _ _ fun y hy e=>h.news y hy cs (by rw [e]; exact hr)]
 cases kl with
 |nil=>exact hr
 |cons k l =>
  simp only [St.kills,St.killP,hk,Bool.false_eq_true,if_false,hr,AO.kill]
theorem pickc_kill {agg:Bool} {n off:Nat} {cs:List V} {p:Nat->Bool} (hn:off < cs.length) (h:(agg||(match cs.getD off .undef with|.agg _=>false|.tup _=>false|_=>true))=true):pickc agg n off (cs.map (V.kill1 p))=(pickc agg n off cs).kill p:=by
 cases agg with
 |true=>simp only [pickc,if_true,V.kill,List.map_drop,List.map_take]
 |false =>
  simp only [pickc,Bool.false_eq_true,if_false,Bool.false_or] at h ⊢
  have e:(cs.map (V.kill1 p)).getD off .undef=(cs.getD off .undef).kill1 p:=by
   simp [List.getD_eq_getElem?_getD,hn]
  rw [e]
  cases hc:cs.getD off .undef <;> rw [hc] at h <;> first|rfl|cases h
theorem hopLA {x y:Op'×Nat} (hx:okClass x.1.op x.2=true) (hx4:x.2=4) (hy3:y.2=3) (hy:(match y.1.op with|.app _ _ _ _ _=>true|_=>false)=true) (hap:apartO x.1 y.1=true) {l:List (Op'×Nat)} {K:St->Prop} (hk:wpOpsD P (x::y::l) st K):wpOpsD P (y::x::l) st K:=by
 obtain ⟨x,cx⟩:=x
 obtain ⟨⟨dy,oy,gy⟩,cy⟩:=y
 simp only at hx hx4 hy3 hy hap
 subst hx4 hy3
 obtain ⟨a1,a2,a3,a4⟩:=apartO_spec hap
 obtain ⟨sx,hk⟩:=hk
 have hbx:=sx.four rfl
 rw [effG_iff] at hk
 refine ⟨SideD.three,effG_iff.2 ?_⟩
 cases oy <;> try (cases hy; done)
 rename_i s bytes u w mode
 -- the append,behind a slot that it does not look at
 have key:∀ v:V,wpOpsD P ((⟨dy,.app s bytes u w mode,gy⟩,3)::l) (st.put x.dst v) K->(∀ (kl:List Nat) (news:List (Nat×AO)) (v':V),AppH st kl news->SideD (x,4) (((st.kills kl).sets news).put dy v')/\∀ K':St->Prop,K' ((((st.kills kl).sets news).put dy v').put x.dst (v.killL kl))->doG P x (((st.kills kl).sets news).put dy v') K') ->
   doG P ⟨dy,.app s bytes u w mode,gy⟩ st fun s'=>wpOpsD P ((x,4)::l) s' K:=by
  intro v hk hx
  obtain ⟨-,hk⟩:=hk
  rw [effG_iff] at hk
  have ey:∀ t∈(⟨dy,.app s bytes u w mode,gy⟩ : Op').looks,(st.put x.dst v).env t=st.env t:=fun t ht=>put_env fun e=>a1 t e ht
  unfold doG at hk ⊢
  rw [gd_same ey] at hk
  cases hg:gd ⟨dy,.app s bytes u w mode,gy⟩ st with
  |none=>rw [hg] at hk; exact hk.elim
  |some b =>
   rw [hg] at hk
   cases b with
   |false =>
    obtain ⟨h1,h2⟩:=hx [] [] (.tup []) ⟨by simp,by simp⟩
    refine ⟨h1,effG_iff.2 (h2 _ ?_)⟩
    show wpOpsD P l ((st.put dy (.tup [])).put x.dst v) K
    rw [<- put_comm a2]; exact hk
   |true =>
    obtain ⟨kl,news,v',h1,h2,h3⟩:=eff_appH hk
    have h1':AppH st kl news:=⟨fun k hk=>by have:=h1.kl k hk; rwa [put_heap] at this,fun y hy cs=>by have:=h1.news y hy cs; rwa [put_heap] at this⟩
    obtain ⟨q1,q2⟩:=hx kl news v' h1'
    have hev:=ev_same ey
    refine h3 st (hev u (by simp [O.xs])).symm (hev w (by simp [O.xs])).symm put_heap.symm _ ⟨q1,effG_iff.2 (q2 _ ?_)⟩
    rw [kills_putL,put_sets,put_comm a2] at h2
    exact h2
 have hlk:∀ (kl:List Nat) (news:List (Nat×AO)) (v':V),∀ t∈x.looks,(((st.kills kl).sets news).put dy v').env t=(st.env t).killL kl:=fun kl news v' t ht=>by
  rw [put_env fun e=>a3 t e ht,sets_env,kills_env]
 unfold doG at hk
 cases hg:gd x st with
 |none=>rw [hg] at hk; exact hk.elim
 |some b =>
  obtain ⟨d,o,g⟩:=x
  cases o <;> try (cases hx; done)
  ·rename_i agg n z
   rw [hg] at hk
   have hzl:∀ (kl:List Nat) (news:List (Nat×AO)) (v':V),z.ev (((st.kills kl).sets news).put dy v')=(z.ev st).killL kl\/(∃ v,z=.k v):=fun kl news v'=>by
    cases z with
    |t k=>exact .inl (hlk kl news v' k (by simp [Op'.looks,O.xs,X.tmps]))
    |k v=>exact .inr ⟨v,rfl⟩
   -- what the class says,behind the append
   have side : ∀ (kl:List Nat) (news:List (Nat×AO)) (v':V),AppH st kl news->SideD (⟨d,.load agg n z,g⟩,4) (((st.kills kl).sets news).put dy v'):=fun kl news v' hA=>by
    refine ⟨fun e=>(by cases e),fun _=>?_,fun e=>(by cases e),fun e=>(by cases e)⟩
    simp only [boxedB] at hbx ⊢
    split at hbx
    ·rename_i r off hz
     split at hbx
     ·rename_i cs hr
      obtain ⟨e1,e2⟩:=hA.box hr
      have ez:z.ev (((st.kills kl).sets news).put dy v')=.ptr r off:=by
       rcases hzl kl news v' with e|⟨v,rfl⟩
       ·rw [e,hz]; exact killL_ptr e1
       ·exact hz
      rw [ez]; dsimp only; rw [put_heap,e2]; dsimp only
      cases agg with
      |true=>rfl
      |false =>
       simp only [Bool.false_or] at hbx ⊢
       cases kl with
       |nil=>exact hbx
       |cons k l =>
        dsimp only
        rw [List.getD_eq_getElem?_getD,List.getElem?_map]
        rw [List.getD_eq_getElem?_getD] at hbx
        cases hc:cs[off]? with
        |none=>rfl
        |some c =>
         rw [hc] at hbx
         simp only [Option.map_some,Option.getD_some] at hbx ⊢
         unfold V.kill1
         by_cases hh:c.has (inl (k::l))=true
         ·rw [if_pos hh]
         ·rw [if_neg hh]; exact hbx
     ·cases hbx
    ·rename_i vs hz
     rcases hzl kl news v' with e|⟨v,rfl⟩
     ·rw [e,hz]
      cases kl <;> rfl
     ·rw [show (X.k v).ev (((st.kills kl).sets news).put dy v')=.tup vs from hz]
    ·cases hbx
   cases b with
   |false =>
    refine key _ hk fun kl news v' hA=>⟨side kl news v' hA,fun K' hk'=>?_⟩
    unfold doG
    rw [gd_of (hlk kl news v') hg]
    have e:(V.tup []).killL kl=.tup []:=by cases kl <;> rfl
    rw [e] at hk'; exact hk'
   |true =>
    simp only [boxedB] at hbx
    split at hbx
    ·rename_i r off hz
     obtain ⟨cs,h1,h2,h3⟩:=(eff_load_box hz).1 hk
     rw [h1] at hbx
     dsimp only at hbx
     refine key _ h3 fun kl news v' hA=>⟨side kl news v' hA,fun K' hk'=>?_⟩
     unfold doG
     rw [gd_of (hlk kl news v') hg]
     obtain ⟨e1,e2⟩:=hA.box h1
     have ez:z.ev (((st.kills kl).sets news).put dy v')=.ptr r off:=by
      rcases hzl kl news v' with e|⟨v,rfl⟩
      ·rw [e,hz]; exact killL_ptr e1
      ·exact hz
     refine (eff_load_box ez).2 ⟨_,by rw [put_heap]; exact e2,?_,?_⟩
     ·cases kl <;> simpa using h2
     ·cases kl with
      |nil=>exact hk'
      |cons k l =>
       dsimp only
       by_cases h0:off < cs.length
       ·rw [pickc_kill h0 hbx]; exact hk'
       ·have e3:pickc agg n off (cs.map (V.kill1 (inl (k::l))))=(pickc agg n off cs).kill (inl (k::l)):=by
         cases agg with
         |true=>simp only [pickc,if_true,V.kill,List.map_drop,List.map_take]
         |false =>
          simp only [pickc,Bool.false_eq_true,if_false]
          rw [List.getD_eq_getElem?_getD,List.getElem?_eq_none (by simp; omega),List.getD_eq_getElem?_getD,List.getElem?_eq_none (by omega)]; rfl
        rw [e3]; exact hk'
    ·rename_i hz
     simp only [eff,hz] at hk
    ·cases hbx
  ·rename_i off z
   rw [hg] at hk
   have hzl:∀ (kl:List Nat) (news:List (Nat×AO)) (v':V),z.ev (((st.kills kl).sets news).put dy v')=(z.ev st).killL kl\/(∃ v,z=.k v):=fun kl news v'=>by
    cases z with
    |t k=>exact .inl (hlk kl news v' k (by simp [Op'.looks,O.xs,X.tmps]))
    |k v=>exact .inr ⟨v,rfl⟩
   have side:∀ (kl:List Nat) (news:List (Nat×AO)) (v':V),AppH st kl news->SideD (⟨d,.faddr off z,g⟩,4) (((st.kills kl).sets news).put dy v'):=fun kl news v' hA=>by
    refine ⟨fun e=>(by cases e),fun _=>?_,fun e=>(by cases e),fun e=>(by cases e)⟩
    simp only [boxedB] at hbx ⊢
    split at hbx
    ·rename_i r o hz
     split at hbx
     ·rename_i cs hr
      obtain ⟨e1,e2⟩:=hA.box hr
      have ez:z.ev (((st.kills kl).sets news).put dy v')=.ptr r o:=by
       rcases hzl kl news v' with e|⟨v,rfl⟩
       ·rw [e,hz]; exact killL_ptr e1
       ·exact hz
      rw [ez]; dsimp only; rw [put_heap,e2]
     ·cases hbx
    ·rename_i vs hz
     rcases hzl kl news v' with e|⟨v,rfl⟩
     ·rw [e,hz]
      cases kl <;> rfl
     ·rw [show (X.k v).ev (((st.kills kl).sets news).put dy v')=.tup vs from hz]
    ·cases hbx
   cases b with
   |false =>
    refine key _ hk fun kl news v' hA=>⟨side kl news v' hA,fun K' hk'=>?_⟩
    unfold doG
    rw [gd_of (hlk kl news v') hg]
    have e:(V.tup []).killL kl=.tup []:=by cases kl <;> rfl
    rw [e] at hk'; exact hk'
   |true =>
    obtain ⟨w,h1,h2⟩:=eff_faddr.1 hk
    simp only [boxedB] at hbx
    split at hbx
    ·rename_i r o hz
     split at hbx
     ·rename_i cs hr
      rw [hz] at h1
      simp only [fav,Option.some.injEq] at h1
      subst h1
      refine key _ h2 fun kl news v' hA=>⟨side kl news v' hA,fun K' hk'=>?_⟩
      unfold doG
      rw [gd_of (hlk kl news v') hg]
      obtain ⟨e1,e2⟩:=hA.box hr
      have ez:z.ev (((st.kills kl).sets news).put dy v')=.ptr r o:=by
       rcases hzl kl news v' with e|⟨v,rfl⟩
       ·rw [e,hz]; exact killL_ptr e1
       ·exact hz
      rw [killL_ptr e1] at hk'
      exact eff_faddr.2 ⟨_,by rw [ez]; rfl,hk'⟩
     ·cases hbx
    ·rename_i hz
     rw [hz] at h1; cases h1
    ·cases hbx
theorem hop {x y:Op'×Nat} (hx:okClass x.1.op x.2=true) (hy:okClass y.1.op y.2=true) (h:hopOk x y=true) {l:List (Op'×Nat)} {K:St->Prop} (hk:wpOpsD P (x::y::l) st K):wpOpsD P (y::x::l) st K:=by
 unfold hopOk at h
 simp only [Bool.or_eq_true,Bool.and_eq_true,beq_iff_eq] at h
 rcases h with h|⟨hap,(((((((⟨h1,h2⟩|⟨⟨⟨h1,h2⟩,h3⟩,h4⟩)|⟨⟨⟨h1,h2⟩,h3⟩,h4⟩)|h)|h)|h)|h)|⟨⟨h1,h2⟩,h3⟩)⟩
 ·exact swap0 h hk
 ·exact hop0 hx hy h1 h2 hap hk
 ·exact swapL h1 h2 h3 h4 hap hk
 ·exact swapM h3 h4 h1 h2 hap hk
 ·exact hop45 hx hy (.inl h) hap hk
 ·exact hop45 hx hy (.inr h) hap hk
 ·exact hop6 hx hy (.inl h) hap hk
 ·exact hop6 hx hy (.inr h) hap hk
 ·exact hopLA hx h1 h2 h3 hap hk
theorem hops {i:Op'×Nat} (hi:okClass i.1.op i.2=true) {K:St->Prop}:∀ {pre post:List (Op'×Nat)} {st:St},(∀ x∈pre,okClass x.1.op x.2=true/\hopOk x i=true)->wpOpsD P (pre ++ i::post) st K->wpOpsD P (i::(pre ++ post)) st K
 |[],_,_,_,h=>h
 |x::pre,post,st,hp,h=>hop (hp x (by simp)).1 hi (hp x (by simp)).2 ⟨h.1,effG_mono h.2 fun _ h'=>hops hi (fun y hy=>hp y (by simp [hy])) h'⟩
end Go.Ab
