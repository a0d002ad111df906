/-
  law13: a state of nine Gs; what the document fixes.
  The arguments of the laws of the stage 'state', as they are read.
  The arguments of the laws of the stage 'state', second part, for law14.
-/
import Derived.ProofKit
import Derived.Test.YtkanpbjjabdalaaK8
import Derived.Test.YtkanpbjjabdalaaK11
import Derived.Test.YtkanpbjjabdalaaK13
import Derived.Test.YtkanpbjjabdalaaK21
import Derived.Test.YtkanpbjjabdalaaK28
import Derived.Test.YtkanpbjjabdalaaK31
set_option linter.all false
namespace Go.Ab
open Go Go.Proofs
set_option maxRecDepth 100000
def fullS:SD:=⟨[[⟨0,0⟩]],List.replicate 8 ⟨0,0,1,0,0⟩ ++ [⟨0,0,2,1,0⟩],[⟨1,0,atR 0 [1,2,3,4,5,6,7,8],0⟩,⟨0,0,zeroR,0⟩,⟨0,0,zeroR,0⟩,⟨0,0,zeroR,0⟩,⟨0,0,zeroR,0⟩,⟨0,0,zeroR,0⟩,⟨0,0,zeroR,0⟩,⟨0,0,zeroR,0⟩],[⟨1,9⟩],[],0,0,0,0,[],[],[],[],[],0,1⟩
def fullV:V:=.agg [.sl false 1 (fullS.prog.map fC),.own 5 (fullS.gs.map gC),.own 13 (fullS.ps.map pC),.sl true 2 (fullS.ms.map mC),.own 1 [],.int .i64 0,.int .i64 0,.int .i64 0,.int .i64 0,.sl true 1 [],.sl true 1 [],.sl true 1 [],.sl true 1 [],.sl true 2 [],.int .i64 0,.int .i64 1]
set_option maxHeartbeats 4000000 in
theorem c35:CallsV Try.prog 35 [] fullV [] false:=by
 have cn:=c77 [[⟨0,0⟩]] (by simp) (by simp) 1 true (by rfl)
 rw [if_pos rfl,if_pos rfl] at cn
 have ca:=c78 0 [1,2,3,4,5,6,7,8] (by omega) (by omega) (by simp)
 have h8:(0:Int)<=8/\(8:Int).toNat=8:=⟨by omega,rfl⟩
 unfold fullV
 obtain ⟨rz,h_rz⟩ : ∃ r,r=fullS.gs.map gC:=⟨_,rfl⟩
 rw [<- h_rz]
 refine callsV_l hD Try.func35 ok35x rfl rfl rfl fun P L Q hP hL hQ=>?_
 rw [<- hP] at cn ca
 unfold newV at cn
 obtain ⟨rp,h_rp⟩ : ∃ r,r=List.map fC [[(⟨0,0⟩ : ID)]]:=⟨_,rfl⟩
 obtain ⟨rg,h_rg⟩ : ∃ r,r=(newS [[⟨0,0⟩]] 1).gs.map gC:=⟨_,rfl⟩
 obtain ⟨rq,h_rq⟩ : ∃ r,r=(newS [[⟨0,0⟩]] 1).ps.map pC:=⟨_,rfl⟩
 obtain ⟨rl,h_rl⟩ : ∃ r,r=(newS [[⟨0,0⟩]] 1).gl.map iC:=⟨_,rfl⟩
 rw [<- h_rp,<- h_rg,<- h_rq,<- h_rl] at cn
 have ep:[[V.sl false 2 [[.int .i64 0,.int .i64 0]]]]=rp:=h_rp.symm
 repeat' (cbv; first|refine .y ?_|refine .n ?_|refine .s (fun hc=>?_) fun hc=>?_|refine CallQ.raw cn (by rw [<- ep]; rfl) (.inl rfl) ?_|refine Lt.to (by decide) rfl ?_|refine .x ?_|refine .r ?_|refine .e fun v hv=>?_|refine .a fun v hv=>?_|refine .d ?_|refine .u fun vr vn hvr hvn hvl=>?_|fail)
 all_goals (try cbv)
 refine LoopQ.to (ι:=RunI) (fun p=>⟨tab .undef [(0,.ptr 100 0),(1,.ptr 111 0),(3,.int .i64 p.i)],tab .dead [(100,.box [.nils 1,.nils 5,.nils 13,.nils 2,.nils 1,.int .i64 0,.int .i64 0,.int .i64 0,.int .i64 0,.nils 1,.nils 1,.nils 1,.nils 1,.nils 2,.int .i64 0,.int .i64 0]),
  (111,.box [.sl false 1 rp,.sref 150 0 p.n,.sl true 13 rq,.sl true 2 [],.sl true 1 rl,.int .i64 0,.int .i64 0,.int .i64 0,.int .i64 0,.sl true 1 [],.sl true 1 [],.sl true 1 [],.sl true 1 [],.sl true 2 [],.int .i64 0,.int .i64 1]),(150,.rows 5 p.rs)]⟩)
  (fun p=>0<=p.i/\p.i<=8/\p.rs=(List.replicate p.i.toNat ⟨0,0,1,0,0⟩).map gC/\p.n=p.rs.length) (fun p=>(8 - p.i).toNat) ⟨0,[],0⟩ ⟨by simp,by simp,rfl,rfl⟩ rfl fun ⟨i,rs,n⟩ ⟨i0,i1,hrs,hn⟩ A hA=>?_
 dsimp only at i0 i1 hrs hn ⊢
 have lrs:rs.length<=8:=by rw [hrs]; simp; omega
 by_cases hi:i < 8
 ·have hnext:rs ++ [[.int .i64 0,.int .i64 0,.int .i64 1,.int .i64 0,.int .i64 0]]=(List.replicate (i.toNat+1) ⟨0,0,1,0,0⟩).map gC:=by
   rw [hrs,List.replicate_succ',List.map_append]; rfl
  clear hrs
  repeat' (cbv; first|refine .y ?_|refine .n ?_|refine .s (fun hc=>?_) fun hc=>?_|refine .x ?_|refine .r ?_|refine .e fun v hv=>?_|refine .a fun v hv=>?_|refine .d ?_|refine .u fun vr vn hvr hvn hvl=>?_|fail)
  all_goals (try cbv)
  exact hA ⟨v,vr,vn⟩ _ ⟨by dsimp only; omega,by dsimp only; omega,by dsimp only; rw [hvr,show v.toNat=i.toNat+1 by omega,<- hnext],hvn⟩ (by dsimp only; omega) (by cbv)
 ·have e1:rs ++ [[.int .i64 0,.int .i64 0,.int .i64 2,.int .i64 1,.int .i64 0]]=rz:=by
   rw [hrs,show i.toNat=8 by omega,h_rz]; rfl
  obtain ⟨m,hm⟩ : ∃ m,m=rz.length:=⟨_,rfl⟩
  have hm':m=L rz:=by rw [hL]; exact hm
  clear hrs hA
  repeat' (cbv; first|refine .y ?_|refine .n ?_|refine .s (fun hc=>?_) fun hc=>?_|refine AppL.kn e1 hm ?_|refine Lt.to (by decide) rfl ?_|refine .x ?_|refine .r ?_|refine .e fun v hv=>?_|refine .a fun v hv=>?_|refine .d ?_|refine .u fun vr vn hvr hvn hvl=>?_|fail)
  all_goals (try cbv)
  subst hv
  subst h_rp
  (refine hQ _ ⟨?_,?_,?_,?_,?_⟩ <;> (try cbv) <;> (repeat' first|exact True.intro|exact rfl|assumption|exact FrR.mk rfl|exact FrS.mk rfl|(rw [hL]; rfl)|refine ⟨?_,?_⟩|fail))
theorem full_fit:Fit fullS:=by constructor <;> simp [fullS]
theorem full_yield:yieldOk fullS 1=true:=by kernel_rfl
theorem full_drain:drainOk (yieldS fullS 1) 1=true:=by kernel_rfl
theorem full_wake:wakeOk fullS 1 1=false:=by kernel_rfl
theorem full_a:(tailS fullS 1 9).ps.length=8/\(tailS fullS 1 9).gl=[1,2,3,4,9]/\listR ((tailS fullS 1 9).ps.getD 0 default).r=[5,6,7,8]:=⟨by kernel_rfl,by kernel_rfl,by kernel_rfl⟩
theorem full_b:(yieldS fullS 1).gl=[9]:=by kernel_rfl
theorem full_c:(drainS (yieldS fullS 1) 1).gl=[9,1,2,3,4,5,6,7,8]:=by kernel_rfl
theorem yield_fit:Fit (yieldS fullS 1):=by
 refine ⟨full_fit.prog,full_fit.code,?_,full_fit.ps,?_,?_,full_fit.w0,full_fit.w1,full_fit.w2,full_fit.w3,full_fit.ts⟩
 ·have:(yieldS fullS 1).gs.length=9:=by kernel_rfl
  omega
 ·have:(yieldS fullS 1).ms.length=1:=by kernel_rfl
  omega
 ·rw [full_b]; simp
variable {P:Program} {F:Fs}
theorem q_Ints (hP:P=Try.prog) (hF:F=fs) (a b:List Int) (la:a.length < 9223372036854775808) (t:Bool) (ht:t=true↔a=b):CallsV P 26 [.sl false 1 (F.m iC a),.sl false 1 (F.m iC b)] (.bool t) [.undef,.undef] true:=by
 have:=c26 a b la t ht
 subst hF; rwa [<- hP] at this
theorem q_rList (hP:P=Try.prog) (hF:F=fs) (r:RD):CallsV P 27 [.agg (rC r)] (.own 1 (F.m iC (listR r))) [.undef] true:=by
 have:=r_rList r
 subst hF; rwa [<- hP] at this
set_option maxHeartbeats 4000000 in
theorem d13 (hP:P=Try.prog) (hF:F=fs):CallsV P 13 [] (.bool true) [] true:=by
 have ct:=c35.asRead
 have hsh:fullV.sh=.agg [.sl false 1 (F.m fC fullS.prog),.own 5 (F.m gC fullS.gs),.own 13 (F.m pC fullS.ps),.sl false 2 (F.m mC fullS.ms),.own 1 (F.m iC fullS.gl),.int .i64 fullS.c0,.int .i64 fullS.c1,.int .i64 fullS.c2,.int .i64 fullS.c3,
   .sl false 1 (F.m iC fullS.w0),.sl false 1 (F.m iC fullS.w1),.sl false 1 (F.m iC fullS.w2),.sl false 1 (F.m iC fullS.w3),.sl false 2 (F.m tC fullS.ts),.int .i64 fullS.ck,.int .i64 fullS.pr]:=by
  subst hF
  simp only [fullV,V.sh,V.shL,shR_fC,shR_mC,V.shR]; rfl
 rw [hsh,<- hP] at ct
 clear hsh
 obtain ⟨a1,a2,a3⟩:=full_a
 have b1:=full_b
 have c1:=full_c
 have ff:=full_fit
 have fy:=yield_fit
 have h1:=full_yield
 have h2:=full_drain
 have h3:=full_wake
 obtain ⟨s,hs⟩ : ∃ s,s=fullS:=⟨_,rfl⟩
 rw [<- hs] at ct a1 a2 a3 b1 c1 ff fy h1 h2 h3
 obtain ⟨ta,ea⟩ : ∃ t,t=tailS s 1 9:=⟨_,rfl⟩
 obtain ⟨tb,eb⟩ : ∃ t,t=yieldS s 1:=⟨_,rfl⟩
 rw [<- eb] at b1 c1 fy h2
 obtain ⟨tc,ec⟩ : ∃ t,t=drainS tb 1:=⟨_,rfl⟩
 rw [<- ea] at a1 a2 a3
 rw [<- ec] at c1
 have k1:=d21 hP hF s ta ff 1 9 ea
 have k2:=d16t hP hF s tb ff 1 h1 eb
 have k3:=d18t hP hF tb tc fy 1 h2 ec
 have k4:=d14f hP hF s ff 1 1 h3
 have na:F.n ta.ps=8:=by rw [nP hF,a1]; rfl
 have hx:=get_of (d:=default) (show 0 < ta.ps.length by omega)
 obtain ⟨x,ex⟩ : ∃ x,x=ta.ps.getD 0 default:=⟨_,rfl⟩
 rw [<- ex] at hx a3
 have hx':ta.ps[(0:Int).toNat]?=some x:=hx
 have l1:=q_rList hP hF x.r
 obtain ⟨l,el⟩ : ∃ l,l=listR x.r:=⟨_,rfl⟩
 rw [<- el] at l1 a3
 have eI:∀ l:List Int,F.m iC l=l.map iC:=fun l=>by rw [hF]; rfl
 have i1:=q_Ints hP hF ta.gl [1,2,3,4,9] (by rw [a2]; simp) true (by simp [a2])
 have i2:=q_Ints hP hF l [5,6,7,8] (by rw [a3]; simp) true (by simp [a3])
 have i3:=q_Ints hP hF tb.gl [9] (by rw [b1]; simp) true (by simp [b1])
 have i4:=q_Ints hP hF tc.gl [9,1,2,3,4,5,6,7,8] (by rw [c1]; simp) true (by simp [c1])
 rw [eI [1,2,3,4,9]] at i1
 rw [eI [5,6,7,8]] at i2
 rw [eI [9]] at i3
 rw [eI [9,1,2,3,4,5,6,7,8]] at i4
 clear eI el ex hx a1 a2 a3 b1 c1 ff fy h1 h2 h3 ea eb ec hs
 refine callsV_f hD Try.func13 ok13x hP hF rfl fun R hQ=>?_
 repeat' (cbv; first|refine .y ?_|refine .n ?_|refine .s (fun hc=>?_) fun hc=>?_|refine .z ct ?_|refine .z k1 ?_|refine .z k2 ?_|refine .z k3 ?_|refine .z k4 ?_|refine .z l1 ?_|refine .z i1 ?_|refine .z i2 ?_|refine .z i3 ?_|refine .z i4 ?_|refine .v ?_|refine .r ?_|refine .e fun v hv=>?_|refine .a fun v hv=>?_|refine .d ?_|refine .fa ?_|refine .f1 ?_|refine .u fun vr vn hvr hvn hvl=>?_|fail)
 all_goals (try cbv)
 (refine hQ _ ⟨?_,?_,?_,?_,?_⟩ <;> (try cbv) <;> (repeat' first|exact True.intro|exact rfl|assumption|exact lenU|exact frM|exact FrR.mk rfl|exact FrS.mk rfl|refine ⟨?_,?_⟩|(subst_vars; rfl)|fail))
end Go.Ab

namespace Go.Ab
open Go Go.Proofs Go.RowKit Go.ChangeShapes
set_option maxRecDepth 100000
section
variable {P:Program} {B:Nat}
def flatI (P:Program):Nat->TypeId->Bool
 |0,_=>false
 |d+1,t=>match P.underlying t with
  |some (.int .i64)=>true
  |some (.struct fs)=>tiles P fs.toList 0 (P.cellsOf t)&&fs.toList.all fun f=>flatI P d f.type
  |some (.array n e)=>n * P.cellsOf e == P.cellsOf t&&flatI P d e
  |_=>false
theorem tiles_cover:∀ (fs:List Field) (off total:Nat),tiles P fs off total=true->∀ j,off<=j->j < total->∃ f∈fs,f.offset<=j/\j < f.offset+P.cellsOf f.type
 |[],off,total,h,j,h1,h2=>by
  simp only [tiles,beq_iff_eq] at h
  omega
 |f :: fs,off,total,h,j,h1,h2=>by
  simp only [tiles,Bool.and_eq_true,beq_iff_eq] at h
  obtain ⟨rfl,h⟩:=h
  by_cases hj:j < f.offset+P.cellsOf f.type
  ·exact ⟨f,by simp,h1,hj⟩
  ·obtain ⟨g,hg,q⟩:=tiles_cover fs _ total h j (by omega) h2
   exact ⟨g,by simp [hg],q⟩
theorem typed_flat:∀ (d:Nat) (t:TypeId) (vs:List V),flatI P d t=true->Typed P B d t vs->∀ c∈vs,∃ n,c=.int .i64 n
 |0,_,_,h,_=>by simp [flatI] at h
 |d + 1,t,vs,h,ht=>by
  unfold flatI at h
  unfold Typed at ht
  cases hu:P.underlying t with
  |none=>rw [hu] at h; simp at h
  |some ty =>
   rw [hu] at h ht
   intro c hc
   cases ty with
   |int k =>
    obtain ⟨n,_,rfl⟩:=ht
    cases k <;> simp at h
    simp at hc
    exact ⟨n,hc⟩
   |struct fs =>
    simp only [Bool.and_eq_true,List.all_eq_true] at h
    obtain ⟨hl,hf⟩:=ht
    obtain ⟨j,hj⟩:=List.getElem?_of_mem hc
    have hlt:=(List.getElem?_eq_some_iff.1 hj).1
    obtain ⟨f,hfm,q1,q2⟩:=tiles_cover _ _ _ h.1 j (Nat.zero_le _) (by omega)
    refine typed_flat d f.type _ (h.2 f hfm) (hf f hfm) c ?_
    refine List.mem_of_getElem? (i:=j - f.offset) ?_
    rw [List.getElem?_take,if_pos (by omega),List.getElem?_drop,show f.offset+(j - f.offset)=j by omega]
    exact hj
   |array n e =>
    simp only [Bool.and_eq_true,beq_iff_eq] at h
    obtain ⟨hl,hf⟩:=ht
    obtain ⟨j,hj⟩:=List.getElem?_of_mem hc
    have hlt:=(List.getElem?_eq_some_iff.1 hj).1
    rw [hl,<- h.1] at hlt
    have hpos:0 < P.cellsOf e:=by
     rcases Nat.eq_zero_or_pos (P.cellsOf e) with q|q
     ·rw [q] at hlt; omega
     ·exact q
    have hdiv:j / P.cellsOf e < n:=(Nat.div_lt_iff_lt_mul hpos).2 hlt
    have hmod:=Nat.mod_lt j hpos
    have hdm:=Nat.div_add_mod j (P.cellsOf e)
    rw [Nat.mul_comm] at hdm
    refine typed_flat d e _ h.2 (hf (j / P.cellsOf e) hdiv) c ?_
    refine List.mem_of_getElem? (i:=j % P.cellsOf e) ?_
    rw [List.getElem?_take,if_pos hmod,List.getElem?_drop,hdm]
    exact hj
   |_=>simp at h
theorem rows_map {α:Type} (f:α->List V):∀ (rows:List (List V)),(∀ r∈rows,∃ x,r=f x)->∃ l:List α,rows=l.map f
 |[],_=>⟨[],rfl⟩
 |r::rows,h=>by
  obtain ⟨l,hl⟩:=rows_map f rows fun r hr=>h r (by simp [hr])
  obtain ⟨x,hx⟩:=h r (by simp)
  exact ⟨x::l,by simp [hl,hx]⟩
theorem typed_slice {α:Type} (f:α->List V) {d:Nat} {t e:TypeId} {n by_:Nat} {vs:List V} (hu:P.underlying t=some (.slice e)) (hn:P.cellsOf e=n) (hb:P.bytesOf e=by_) (hf:∀ r:List V,r.length=n->Typed P B d e r->∃ x,r=f x) (h:Typed P B (d+1) t vs) :
  ∃ l:List α,vs=[.sl false n (l.map f)]/\l.length * by_<=B:=by
 unfold Typed at h
 rw [hu] at h
 obtain ⟨rows,h1,h2,h3,rfl⟩:=h
 obtain ⟨l,hl⟩:=rows_map f rows fun r hr=>hf r (by rw [<- hn]; exact (h3 r hr).1) (h3 r hr).2
 subst hl
 refine ⟨l,by rw [hn],?_⟩
 rw [List.length_map,hb] at h2
 exact h2
end
section
variable {B d:Nat} {vs:List V}
theorem mk_i (h:vs.length=1) (hf:∀ c∈vs,∃ n,c=V.int .i64 n):∃ x,vs=iC x:=by
 match vs,h with
 |[a],_ =>
  obtain ⟨n,rfl⟩:=hf a (by simp)
  exact ⟨n,rfl⟩
theorem mk_j (h:vs.length=2) (hf:∀ c∈vs,∃ n,c=V.int .i64 n):∃ a b,vs=[.int .i64 a,.int .i64 b]:=by
 match vs,h with
 |[a,b],_ =>
  obtain ⟨n,rfl⟩:=hf a (by simp)
  obtain ⟨m,rfl⟩:=hf b (by simp)
  exact ⟨n,m,rfl⟩
theorem mk_g (h:vs.length=5) (hf:∀ c∈vs,∃ n,c=V.int .i64 n):∃ x,vs=gC x:=by
 match vs,h with
 |[a,b,c,d,e],_ =>
  obtain ⟨a,rfl⟩:=hf a (by simp)
  obtain ⟨b,rfl⟩:=hf b (by simp)
  obtain ⟨c,rfl⟩:=hf c (by simp)
  obtain ⟨d,rfl⟩:=hf d (by simp)
  obtain ⟨e,rfl⟩:=hf e (by simp)
  exact ⟨⟨a,b,c,d,e⟩,rfl⟩
theorem mk_p (h:vs.length=13) (hf:∀ c∈vs,∃ n,c=V.int .i64 n):∃ x,vs=pC x:=by
 match vs,h with
 |[a0,a1,a2,a3,a4,a5,a6,a7,a8,a9,a10,a11,a12],_ =>
  obtain ⟨a0,rfl⟩:=hf a0 (by simp)
  obtain ⟨a1,rfl⟩:=hf a1 (by simp)
  obtain ⟨a2,rfl⟩:=hf a2 (by simp)
  obtain ⟨a3,rfl⟩:=hf a3 (by simp)
  obtain ⟨a4,rfl⟩:=hf a4 (by simp)
  obtain ⟨a5,rfl⟩:=hf a5 (by simp)
  obtain ⟨a6,rfl⟩:=hf a6 (by simp)
  obtain ⟨a7,rfl⟩:=hf a7 (by simp)
  obtain ⟨a8,rfl⟩:=hf a8 (by simp)
  obtain ⟨a9,rfl⟩:=hf a9 (by simp)
  obtain ⟨a10,rfl⟩:=hf a10 (by simp)
  obtain ⟨a11,rfl⟩:=hf a11 (by simp)
  obtain ⟨a12,rfl⟩:=hf a12 (by simp)
  exact ⟨⟨a0,a1,⟨a2,a3,a4,a5,a6,a7,a8,a9,a10,a11⟩,a12⟩,rfl⟩
theorem typed_instrs (h:Typed Try.prog B (d+5) 92 vs):∃ l:List ID,vs=fC l:=by
 obtain ⟨l,hl,_⟩:=typed_slice jC (n:=2) (by_:=16) (d:=d+4) (e:=95) (by kernel_rfl) (by kernel_rfl) (by kernel_rfl) (fun r hr ht=>by
  obtain ⟨a,b,e⟩:=mk_j hr (typed_flat (d+4) _ _ (by kernel_rfl) ht)
  exact ⟨⟨a,b⟩,e⟩) h
 exact ⟨l,hl⟩
theorem typed_prog (h:Typed Try.prog B (d+6) 23 vs):∃ l:List (List ID),vs=[.sl false 1 (l.map fC)]/\l.length * 24<=B :=
 typed_slice fC (n:=1) (by_:=24) (d:=d+5) (e:=92) (by kernel_rfl) (by kernel_rfl) (by kernel_rfl) (fun r _ ht=>typed_instrs ht) h
theorem typed_gs (h:Typed Try.prog B (d+6) 24 vs):∃ l:List GD,vs=[.sl false 5 (l.map gC)]/\l.length * 40<=B :=
 typed_slice gC (n:=5) (by_:=40) (d:=d+5) (e:=48) (by kernel_rfl) (by kernel_rfl) (by kernel_rfl) (fun r hr ht=>mk_g hr (typed_flat (d+5) _ _ (by kernel_rfl) ht)) h
theorem typed_ps (h:Typed Try.prog B (d+6) 25 vs):∃ l:List PD,vs=[.sl false 13 (l.map pC)]/\l.length * 104<=B :=
 typed_slice pC (n:=13) (by_:=104) (d:=d+5) (e:=53) (by kernel_rfl) (by kernel_rfl) (by kernel_rfl) (fun r hr ht=>mk_p hr (typed_flat (d+5) _ _ (by kernel_rfl) ht)) h
theorem typed_ms (h:Typed Try.prog B (d+6) 26 vs):∃ l:List MD,vs=[.sl false 2 (l.map mC)]/\l.length * 16<=B :=
 typed_slice mC (n:=2) (by_:=16) (d:=d+5) (e:=55) (by kernel_rfl) (by kernel_rfl) (by kernel_rfl) (fun r hr ht=>by
  obtain ⟨a,b,e⟩:=mk_j hr (typed_flat (d+5) _ _ (by kernel_rfl) ht)
  exact ⟨⟨a,b⟩,e⟩) h
theorem typed_ts (h:Typed Try.prog B (d+6) 30 vs):∃ l:List TD,vs=[.sl false 2 (l.map tC)]/\l.length * 16<=B :=
 typed_slice tC (n:=2) (by_:=16) (d:=d+5) (e:=110) (by kernel_rfl) (by kernel_rfl) (by kernel_rfl) (fun r hr ht=>by
  obtain ⟨a,b,e⟩:=mk_j hr (typed_flat (d+5) _ _ (by kernel_rfl) ht)
  exact ⟨⟨a,b⟩,e⟩) h
theorem typed_is (h:Typed Try.prog B (d+2) 27 vs):∃ l:List Int,vs=[.sl false 1 (l.map iC)]/\l.length * 8<=B :=
 typed_slice iC (n:=1) (by_:=8) (d:=d+1) (e:=3) (by kernel_rfl) (by kernel_rfl) (by kernel_rfl) (fun r hr ht=>mk_i hr (typed_flat (d+1) _ _ (by kernel_rfl) ht)) h
structure Room (B:Nat) (s:SD):Prop where
 prog:s.prog.length * 24<=B
 gs:s.gs.length * 40<=B
 ps:s.ps.length * 104<=B
 ms:s.ms.length * 16<=B
 gl:s.gl.length * 8<=B
 w0:s.w0.length * 8<=B
 w1:s.w1.length * 8<=B
 w2:s.w2.length * 8<=B
 w3:s.w3.length * 8<=B
 ts:s.ts.length * 16<=B
theorem typed_state (h:Typed Try.prog B (d+7) 32 vs):∃ s,vs=stC s/\Room B s:=by
 obtain ⟨fs,hu,g0,g1,g2,g3,g4,g5,g6,g7,g8,g9⟩ : ∃ fs,Try.prog.underlying 32=some (.struct fs)/\(∃ f,fs[0]?=some f/\f.type=23/\f.offset=0)/\(∃ f,fs[1]?=some f/\f.type=24/\f.offset=1)/\(∃ f,fs[2]?=some f/\f.type=25/\f.offset=2)/\(∃ f,fs[3]?=some f/\f.type=26/\f.offset=3) /\
   (∃ f,fs[4]?=some f/\f.type=27/\f.offset=4)/\(∃ f,fs[5]?=some f/\f.type=28/\f.offset=5)/\(∃ f,fs[6]?=some f/\f.type=29/\f.offset=9)/\(∃ f,fs[7]?=some f/\f.type=30/\f.offset=13)/\(∃ f,fs[8]?=some f/\f.type=3/\f.offset=14)/\(∃ f,fs[9]?=some f/\f.type=3/\f.offset=15) :=
  ⟨_,Try.underlying32,⟨_,rfl,rfl,rfl⟩,⟨_,rfl,rfl,rfl⟩,⟨_,rfl,rfl,rfl⟩,⟨_,rfl,rfl,rfl⟩,⟨_,rfl,rfl,rfl⟩,⟨_,rfl,rfl,rfl⟩,⟨_,rfl,rfl,rfl⟩,⟨_,rfl,rfl,rfl⟩,⟨_,rfl,rfl,rfl⟩,⟨_,rfl,rfl,rfl⟩⟩
 unfold Typed at h
 rw [hu] at h
 obtain ⟨hl,hf⟩:=h
 have hc:Try.prog.cellsOf 32=16:=by kernel_rfl
 have F:∀ {i t o n:Nat},(∃ f,fs[i]?=some f/\f.type=t/\f.offset=o)->Try.prog.cellsOf t=n->Typed Try.prog B (d+6) t ((vs.drop o).take n):=fun ⟨f,h1,h2,h3⟩ hn=>by
  subst h2 h3 hn
  refine hf f ?_
  exact List.mem_of_getElem? (by rw [Array.getElem?_toList]; exact h1)
 have q0:=F g0 (n:=1) (by kernel_rfl)
 have q1:=F g1 (n:=1) (by kernel_rfl)
 have q2:=F g2 (n:=1) (by kernel_rfl)
 have q3:=F g3 (n:=1) (by kernel_rfl)
 have q4:=F g4 (n:=1) (by kernel_rfl)
 have q5:=F g5 (n:=4) (by kernel_rfl)
 have q6:=F g6 (n:=4) (by kernel_rfl)
 have q7:=F g7 (n:=1) (by kernel_rfl)
 have q8:=F g8 (n:=1) (by kernel_rfl)
 have q9:=F g9 (n:=1) (by kernel_rfl)
 clear F hf g0 g1 g2 g3 g4 g5 g6 g7 g8 g9 hu fs
 rw [hc] at hl
 match vs,hl with
 |[v0,v1,v2,v3,v4,v5,v6,v7,v8,v9,v10,v11,v12,v13,v14,v15],_ =>
  simp only [List.drop_succ_cons,List.drop_zero,List.take_succ_cons,List.take_zero] at q0 q1 q2 q3 q4 q5 q6 q7 q8 q9
  obtain ⟨l0,e0,b0⟩:=typed_prog q0
  obtain ⟨l1,e1,b1⟩:=typed_gs q1
  obtain ⟨l2,e2,b2⟩:=typed_ps q2
  obtain ⟨l3,e3,b3⟩:=typed_ms q3
  obtain ⟨l4,e4,b4⟩:=typed_is q4
  have t5:=typed_flat (d+6) _ _ (by kernel_rfl) q5
  obtain ⟨n5,e5⟩:=t5 v5 (by simp)
  obtain ⟨n6,e6⟩:=t5 v6 (by simp)
  obtain ⟨n7,e7⟩:=t5 v7 (by simp)
  obtain ⟨n8,e8⟩:=t5 v8 (by simp)
  have w:∀ i,i < 4->Typed Try.prog B (d+5) 27 (([v9,v10,v11,v12].drop (i * 1)).take 1):=fun i hi=>by
   unfold Typed at q6
   rw [show Try.prog.underlying 29=some (.array 4 27) by kernel_rfl] at q6
   have:=q6.2 i hi
   rwa [show Try.prog.cellsOf 27=1 by kernel_rfl] at this
  obtain ⟨l9,e9,b9⟩:=typed_is (w 0 (by omega))
  obtain ⟨l10,e10,b10⟩:=typed_is (w 1 (by omega))
  obtain ⟨l11,e11,b11⟩:=typed_is (w 2 (by omega))
  obtain ⟨l12,e12,b12⟩:=typed_is (w 3 (by omega))
  obtain ⟨l13,e13,b13⟩:=typed_ts q7
  obtain ⟨n14,e14⟩:=typed_flat (d+6) _ _ (by kernel_rfl) q8 v14 (by simp)
  obtain ⟨n15,e15⟩:=typed_flat (d+6) _ _ (by kernel_rfl) q9 v15 (by simp)
  simp only [List.cons.injEq,and_true,List.drop_succ_cons,List.drop_zero,List.take_succ_cons,List.take_zero,Nat.zero_mul,Nat.one_mul,Nat.mul_one] at e0 e1 e2 e3 e4 e9 e10 e11 e12 e13
  subst e0 e1 e2 e3 e4 e5 e6 e7 e8 e9 e10 e11 e12 e13 e14 e15
  exact ⟨⟨l0,l1,l2,l3,l4,n5,n6,n7,n8,l9,l10,l11,l12,l13,n14,n15⟩,rfl,⟨b0,b1,b2,b3,b4,b9,b10,b11,b12,b13⟩⟩
end
section
variable {H:Type} {enc:TypeId×Value->H} {W:World} {r:Go.Reach} {b0:Nat} {v:Value} {dt:DataW H} {p:List MemPlace} {B:Nat}
abbrev argC (W:World):Ctx:=bare W (fun b _=>b < W.heap.size) fun b=>W.heap.size<=b
theorem open_struct {t:TypeId} {fs:Array Field} (hu:Try.prog.underlying t=some (.struct fs)) (hk:tyOk Try.prog 7 t=true) (hval:Value.okWide Try.prog W r b0 t v) (h:DataW.Trod enc Try.prog W 0 (fun _=>true) true t v dt p) (hw:∀ w∈dt.weights Try.prog t,w<=B) :
  ∃ vs:List V,Typed Try.prog B 7 t vs/\R (argC W) (.agg vs) v:=by
 unfold Value.okWide at hval
 rw [hu] at hval
 obtain ⟨cs,rfl,hsz,_⟩:=hval
 obtain ⟨fuel,h⟩:=h
 obtain ⟨vs,h1,h2,h3⟩:=trod_typed (F:=fun b _=>b < W.heap.size) (G:=fun b=>W.heap.size<=b) (fun _ _ h=>h) 7 fuel t _ _ hk h hw
 refine ⟨vs,h2,?_⟩
 have hcs:(Value.agg cs).cells.toList=cs.toList:=rfl
 rw [hcs] at h3
 have hl:vs.length=cs.toList.length:=by rw [h1]; simpa using hsz.symm
 have:=R.agg (C:=argC W) vs cs.toList hl (fun u hu=>?_) (fun j c hj=>?_)
 ·simpa using this
 ·obtain ⟨j,hj⟩:=List.getElem?_of_mem hu
  have hlt:=(List.getElem?_eq_some_iff.1 hj).1
  obtain ⟨u',q1,q2,_⟩:=h3 j vs[j] (by simp [hl,hlt])
  rw [hj] at q1; cases q1
  exact q2
 ·obtain ⟨u,q1,_,_,q4⟩:=h3 j c hj
  rw [List.getD_eq_getElem?_getD,q1]
  exact q4
theorem open_int (hval:Value.okWide Try.prog W r b0 3 v) (h:DataW.Trod enc Try.prog W 0 (fun _=>true) true 3 v dt p):∃ n:Int,v=.int .i64 n:=by
 have hu:Try.prog.underlying 3=some (.int .i64):=by kernel_rfl
 unfold Value.okWide at hval
 rw [hu] at hval
 simp only at hval
 unfold Cell.okWide at hval
 rw [hu] at hval
 cases v <;> first|(simp [Cell.ok,hu] at hval; done)|skip
 all_goals simp_all [Cell.ok]
theorem sized {ts:List TypeId} {ds:List (DataW H)} (h:(DataW.weightsEach Try.prog ts ds).all (·<=reachBytes)=true) {j:Nat} {t:TypeId} (ht:ts[j]?=some t) (hd:ds[j]?=some dt):∀ w∈dt.weights Try.prog t,w<=140737488355328:=fun w hw=>by
 have:=List.all_eq_true.1 h _ (DataW.weights_mem_each ht hd w hw)
 simp only [decide_eq_true_eq] at this
 have:=reachBytes_lt
 omega
end
end Go.Ab

namespace Go.Ab
open Go Go.Proofs Go.RowKit Go.ChangeShapes
set_option maxRecDepth 100000
theorem Room.held {s:SD} (h:Room 140737488355328 s):Held s:=by
 obtain ⟨a0,a1,a2,a3,a4,a5,a6,a7,a8,a9⟩:=h
 exact ⟨by omega,by omega,by omega,by omega,by omega,by omega,by omega,by omega,by omega,by omega⟩
end Go.Ab
