/-
  ring.All: a ring's numbers come in order, as a range sees it.
  A P's queue, and a G's status by its place: the program.
-/
import Derived.RangeFuncBox
import Derived.RangeFuncLeaves
import Derived.Shelf.Abstract
import Derived.WalkKit
import Derived.OwnWalkIn
import Derived.TacticsInMore
import Derived.LoopNIn
import Derived.LoopIn
import Derived.RangeFuncNested
import Derived.RangeFuncBound
import Derived.RangeFuncCalls
import Derived.Shelf.RegionOpen
import Derived.Maps.AppendAt
import Derived.Test.YtkanpbjjabdalaaK7
import Derived.Test.YtkanpbjjabdalaaK11
import Derived.Test.YtkanpbjjabdalaaK13
set_option linter.all false
namespace Go.Proofs
open Go.RowKit Go.Shelf Go.Ab
attribute [local go_sem] Oper.semAt_some
def ringU (s:Nat->Int) (h m:Int):Array Value:=#[.int .i64 (s 0),.int .i64 (s 1),.int .i64 (s 2),.int .i64 (s 3),.int .i64 (s 4),.int .i64 (s 5),.int .i64 (s 6),.int .i64 (s 7),.int .i64 h,.int .i64 m]
theorem ringU_R (C:Ctx) (s:Nat->Int) (h m:Int):R C (.agg (ringC s h m)) (.agg (ringU s h m)):=by
 refine .agg _ [_,_,_,_,_,_,_,_,_,_] rfl (by simp [Value.oneCell']) fun j c hj=>?_
 have hlt:j < 10:=by
  rcases Nat.lt_or_ge j 10 with h|h
  ·exact h
  ·rw [List.getElem?_eq_none (by simpa [ringC] using h)] at hj; cases hj
 have:j=0\/j=1\/j=2\/j=3\/j=4\/j=5\/j=6\/j=7\/j=8\/j=9:=by omega
 rcases this with e|e|e|e|e|e|e|e|e|e <;> subst e <;> (simp only [ringC] at hj; cases hj; exact .int _ _)
theorem slot_run (w:World) (s:Nat->Int) (h m k:Int) (h0:0<=h) (h1:h < 8) (k0:0<=k) (k1:k<=8) (j:Int) (hj:j=(h+k) % 8) :
  Calls Try.prog 96 #[.agg (ringU s h m),.int .i64 k] w fun e w'=>e=.returned (.int .i64 j)/\Below w.heap.size w w':=by
 refine Calls.mono ((c96 s h m k h0 h1 k0 k1 j hj).run (vs:=[.agg (ringU s h m),.int .i64 k]) (w:=w) (F:=fun _ _=>False) rfl rfl (fun _ _ h=>h.elim) fun i a hi=>?_) ?_
 ·cases i with
  |zero=>cases hi; exact ringU_R _ s h m
  |succ i =>
   cases i with
   |zero=>cases hi; exact .int _ _
   |succ i=>simp at hi
 ·rintro e w' ⟨v,F',rfl,hr,hb,_⟩
  cases hr
  exact ⟨rfl,hb⟩
theorem grown_of_below {A B:World} (h:Below A.heap.size A B):A.grownBy B none:=⟨h.os,h.tape,h.output,h.size,fun k hk _=>h.block k hk⟩
def CellsAt (W:World) (Bn base:Nat) (s:Nat->Int) (h m:Int):Prop:=∀ j,j < 10->W.cell? ⟨Bn,base+j,none⟩=some ((ringU s h m).getD j undef)
theorem cells_below {A B:World} {Bn base:Nat} {s:Nat->Int} {h m:Int} (hb:Below A.heap.size A B) (hc:CellsAt A Bn base s h m):CellsAt B Bn base s h m:=by
 have hlt:Bn < A.heap.size:=by
  have:=hc 0 (by omega)
  unfold World.cell? at this
  rcases Nat.lt_or_ge Bn A.heap.size with h|h
  ·exact h
  ·rw [Array.getElem?_eq_none h] at this; cases this
 intro j hj
 have:=hc j hj
 unfold World.cell? at this ⊢
 rw [hb.block Bn hlt]; exact this
set_option maxRecDepth 100000 in
set_option maxHeartbeats 2000000 in
theorem all1_in (n l Bn base:Nat) (s:Nat->Int) (h m:Int) (xs:List Int) (N:Nat) (hN:N=xs.length) (r:RingIs s h m xs) (J Jx:List (Fin N)->World->Prop) (Kp:World->World->Prop)
  (hKp:∀ A B,Kp A B->CellsAt A Bn base s h m->CellsAt B Bn base s h m)
  (hY:∀ pre (x:Fin N) W,J pre W->pre.length < N->YieldAt Fence.wide (n - 1) Try.prog l #[.int .i64 (xs.getD x.val 0)] W fun e W' =>
   (e=.returned (.bool true)/\J (pre ++ [x]) W'/\Kp W W')\/(e=.returned (.bool false)/\Jx (pre ++ [x]) W'))
  (W:World) (hJ:AbidesFrom W.heap.size J) (hc:CellsAt W Bn base s h m) (h0:J [] W) :
  CallsIn Fence.wide n Try.prog 119 #[.func (.yield l) #[] #[],.pointer (some ⟨Bn,base,none⟩)] W fun e W'=>(∃ v,e=.returned v) /\
   ((∃ ys:List (Fin N),ys.map (·.val)=List.range N/\J ys W')\/(∃ pre:List (Fin N),True/\Jx pre W')):=by
 refine callsIn_of_wp Try.func119 rfl trivial ?_ rfl
 simp only [Try.ntmps119,List.size_toArray,List.length_cons,List.length_nil,Nat.reduceAdd,Nat.reduceSub,Array.replicate_succ,Array.replicate_zero,List.push_toArray,List.append_toArray,List.nil_append,List.cons_append]
 have hc9:W.cell? ⟨Bn,base+9,none⟩=some (.int .i64 m):=hc 9 (by omega)
 gi_wp2
 have hm1:=r.m1
 have hm0:0<=m/\m.toNat=xs.length:=by have:=r.me; omega
 have rh0:=r.h0
 have rh1:=r.h1
 gi_loopw [6] (fun p wr=>∃ (pre:List (Fin N)) (i:Int),p=.int .i64 i/\0<=i/\i.toNat<=N/\pre.map (·.val)=List.range i.toNat/\CellsAt wr Bn base s h m/\J pre wr)
  (fun p _=>N - (intOf p).toNat)
 case atStart =>
  exact ⟨[],0,rfl,by omega,by omega,rfl,hc,h0⟩
 case round =>
  obtain ⟨pre,i,rfl,i0,hi,hpre,hcr,hJs⟩:=hrel
  rcases (show i.toNat=N\/i.toNat < N by omega) with hend|hlt
  ·have hnlt:¬ i < m:=by omega
   gi_wp2
   go_end0
   exact ⟨⟨_,rfl⟩,.inl ⟨pre,by rw [hpre,hend]; first|done|exact congrArg _ hN,hJs⟩⟩
  ·have hlm:i < m:=by omega
   have c0:wr.cell? ⟨Bn,base,none⟩=some (.int .i64 (s 0)):=hcr 0 (by omega)
   have c1:wr.cell? ⟨Bn,base+1,none⟩=some (.int .i64 (s 1)):=hcr 1 (by omega)
   have c2:wr.cell? ⟨Bn,base+2,none⟩=some (.int .i64 (s 2)):=hcr 2 (by omega)
   have c3:wr.cell? ⟨Bn,base+3,none⟩=some (.int .i64 (s 3)):=hcr 3 (by omega)
   have c4:wr.cell? ⟨Bn,base+4,none⟩=some (.int .i64 (s 4)):=hcr 4 (by omega)
   have c5:wr.cell? ⟨Bn,base+5,none⟩=some (.int .i64 (s 5)):=hcr 5 (by omega)
   have c6:wr.cell? ⟨Bn,base+6,none⟩=some (.int .i64 (s 6)):=hcr 6 (by omega)
   have c7:wr.cell? ⟨Bn,base+7,none⟩=some (.int .i64 (s 7)):=hcr 7 (by omega)
   have c8:wr.cell? ⟨Bn,base+8,none⟩=some (.int .i64 h):=hcr 8 (by omega)
   have c9:wr.cell? ⟨Bn,base+9,none⟩=some (.int .i64 m):=hcr 9 (by omega)
   obtain ⟨j,hj⟩ : ∃ j,j=(h+i) % 8:=⟨_,rfl⟩
   have hxs:s j.toNat=xs.getD i.toNat 0:=by
    rw [show j.toNat=idx h i by unfold idx; omega,r.idx i0 (by omega)]
   have hsl:=slot_run wr s h m i rh0 rh1 i0 (by omega) j hj
   have hj0:0<=j:=by omega
   have hj8:j < 8:=by omega
   clear hj
   gi_wp2
   refine ⟨trivial,fun hd=>(by cases hd),?_⟩
   refine (callsIn_wide.2 hsl).mono ?_
   rintro e w1 ⟨rfl,hb1⟩
   clear hsl c0 c1 c2 c3 c4 c5 c6 c7 c8 c9
   have hcr1:=cells_below hb1 hcr
   have hd:w1.cell? ⟨Bn,base+j.toNat,none⟩=some (.int .i64 (xs.getD i.toNat 0)):=by
    rw [hcr1 j.toNat (by omega),<- hxs]
    rcases eight hj0 hj8 with e|e|e|e|e|e|e|e <;> subst e <;> rfl
   have hJ1:J pre w1:=hJ pre wr w1 none hJs (grown_of_below hb1) (fun r e=>by cases e)
   have hlen:pre.length=i.toNat:=by
    have:=congrArg List.length hpre
    simpa using this
   have hYi:=hY pre ⟨i.toNat,hlt⟩ w1 hJ1 (by omega)
   obtain ⟨y,hyy⟩ : ∃ y,y=xs.getD i.toNat 0:=⟨_,rfl⟩
   dsimp only at hYi
   rw [<- hyy] at hd hYi
   clear hyy hxs
   obtain ⟨fn,tmps,assign,body,hy,hR⟩:=hYi
   dsimp only
   gi_wp2
   refine ⟨fun hd=>(by cases hd),?_⟩
   refine hR.mono ?_
   rintro e W3 (⟨rfl,hJ3,hk3⟩|⟨rfl,hJx3⟩)
   ·have hb3:=hKp _ _ hk3 hcr1
    clear hy hR hd
    dsimp only
    gi_wp2
    go_roundw
    case rel=>exact ⟨pre ++ [⟨i.toNat,hlt⟩],i+1,by simp,by omega,by omega,by rw [List.map_append,hpre,show (i+1).toNat=i.toNat+1 by omega,List.range_succ]; rfl,hb3,hJ3⟩
    case measure=>simp [intOf]; omega
   ·clear hy hR hd
    dsimp only
    gi_wp2
    refine bodyPost_ret (results_none rfl _ _ _) rfl ?_
    exact ⟨⟨_,rfl⟩,.inr ⟨pre ++ [⟨i.toNat,hlt⟩],trivial,hJx3⟩⟩
set_option maxHeartbeats 1000000 in
theorem all_in (s:Nat->Int) (h m:Int) (w:World) :
  Calls Try.prog 110 #[.agg (ringU s h m)] w fun e w'=>e=.returned (.func (.func 119) #[] #[.pointer (some ⟨w.heap.size,0,none⟩)])/\w'=w.alloc (.cells (ringU s h m) 51):=by
 rw [<- callsIn_wide (n:=3)]
 refine callsIn_of_wp Try.func110 rfl trivial ?_ rfl
 simp only [Try.ntmps110,List.size_toArray,List.length_cons,List.length_nil,Nat.reduceAdd,Nat.reduceSub,Array.replicate_succ,Array.replicate_zero,List.push_toArray,List.append_toArray,List.nil_append,List.cons_append]
 gi_wp2
 go_ret
 exact ⟨rfl,rfl⟩
theorem agg_ring {C:Ctx} {s:Nat->Int} {h m:Int} {u:Value} (hR:R C (.agg (ringC s h m)) u):u=.agg (ringU s h m):=by
 cases hR with
 |agg cs us hl h1 hr =>
  have hlen:us.length=10:=by rw [<- hl]; rfl
  have g:∀ j c,(ringC s h m)[j]?=some c->∀ (k:IntKind) (n:Int),c=V.int k n->us[j]?=some (Value.int k n):=fun j c hj k n e=>by
   have h2:=hr j c hj
   rw [e] at h2
   have hlt:j < us.length:=by rw [<- hl]; exact (List.getElem?_eq_some_iff.1 hj).1
   rw [List.getD_eq_getElem?_getD,List.getElem?_eq_getElem hlt] at h2
   simp only [Option.getD_some] at h2
   rw [List.getElem?_eq_getElem hlt]
   generalize us[j]=x at h2 ⊢
   cases h2
   rfl
  congr 1
  refine congrArg List.toArray (List.ext_getElem? fun j=>?_)
  rcases (show j=0\/j=1\/j=2\/j=3\/j=4\/j=5\/j=6\/j=7\/j=8\/j=9\/10<=j by omega) with e|e|e|e|e|e|e|e|e|e|e
  all_goals first
   |(subst e; rw [g _ _ rfl _ _ rfl]; rfl)
   |(rw [List.getElem?_eq_none (by omega)]; rw [List.getElem?_eq_none (by simpa using e)])
theorem callsV_handF {P:Program} {f:FuncId} {args:List V} {res:V} (hp:args.all V.read=true)
  (h:∀ (w:World) (vs:List Value) (F:Nat->Nat->Prop) (G:Nat->Prop),args.length=vs.length->(∀ (i:Nat) (a:V),args[i]?=some a->RA (bare w F G) a (vs.getD i undef)) ->
   Calls P f vs.toArray w fun e w'=>∃ (v:Value) (Fr:Nat->Nat->Prop),e=.returned v/\Below w.heap.size w w'/\(∀ b off,Fr b off->w.heap.size<=b/\b < w'.heap.size)/\RB (bare w' Fr G) res v/\ownsR res v=[]) :
  CallsV P f args res (args.map fun _=>.undef) true:=by
 intro w F G vs hl hR _ _ _ _ _
 refine Calls.mono (h w vs F G hl hR) ?_
 rintro e w' ⟨v,Fr,rfl,hb,hFr,hres,hown⟩
 obtain ⟨a1,a2,a3⟩:=read_lists (w:=w) (vs:=vs) hp
 obtain ⟨b1,b2,b3⟩:=undef_lists (w:=w') args vs
 refine ⟨v,Fr,rfl,?_⟩
 exact {
  fresh:=fun b off h=>⟨(hFr b off h).2,.inl (hFr b off h).1⟩
  rres:=by
   have:(fun b off=>(true=false/\F b off)\/Fr b off)=Fr:=by funext b off; simp
   rw [this]; exact hres
  len:=by simp
  routs:=fun i a ha=>by
   rw [List.getElem?_map] at ha
   cases hx:args[i]? with
   |none=>rw [hx] at ha; cases ha
   |some x=>rw [hx] at ha; cases ha; exact .undef _
  boxes:=by rw [a2,b2]
  ranges:=fun b off=>⟨fun h=>(b3 b off h).elim,fun h=>(a3 b off h).elim⟩
  nodup:=by rw [b1,a2,hown]; exact List.nodup_nil
  own:=fun b hb'=>by rw [b1,hown] at hb'; cases hb'
  frame:=⟨hb.os,hb.output,hb.tape,hb.size,fun b hlt=>by rw [hb.block b hlt]; exact sameBut_reflL _ _⟩ }
theorem c110 (s:Nat->Int) (h m:Int):CallsV Try.prog 110 [.agg (ringC s h m)] (.fn 119 [] [.cp (ringC s h m) 0]) [.undef] true:=by
 refine callsV_handF (args:=[.agg (ringC s h m)]) rfl fun w vs F G hl hR=>?_
 obtain ⟨u,rfl⟩ : ∃ u,vs=[u]:=by
  cases vs with
  |nil=>cases hl
  |cons u l=>cases l with
   |nil=>exact ⟨u,rfl⟩
   |cons _ _=>simp at hl
 have hu:=agg_ring (hR 0 _ rfl)
 simp only [List.getD_cons_zero] at hu
 subst hu
 refine Calls.mono (all_in s h m w) ?_
 rintro e w' ⟨rfl,rfl⟩
 have hnew:∀ j,j < 10->(w.alloc (.cells (ringU s h m) 51)).cell? ⟨w.heap.size,j,none⟩=some ((ringU s h m).getD j undef):=fun j hj=>by
  simp only [World.cell?,heap_alloc_new]
  rcases (show j=0\/j=1\/j=2\/j=3\/j=4\/j=5\/j=6\/j=7\/j=8\/j=9 by omega) with e|e|e|e|e|e|e|e|e|e <;> subst e <;> rfl
 refine ⟨_,fun b off=>b=w.heap.size/\off < 10,rfl,Below.alloc (Below.refl _ _) (Nat.le_refl _) _,fun b off hb=>?_,?_,rfl⟩
 ·obtain ⟨rfl,_⟩:=hb
  exact ⟨Nat.le_refl _,by show w.heap.size < (w.heap.push _).size; rw [Array.size_push]; omega⟩
 ·refine .fn _ _ _ [] [_] rfl rfl (fun j c hj=>by simp at hj) fun j c hj=>?_
  cases j with
  |zero =>
   cases hj
   have key:∀ (j:Nat) (c:V),(ringC s h m)[j]?=some c->j < 10/\V.closed c=true/\((ringU s h m).getD j undef).oneCell'=true/\∀ C:Ctx,R C c ((ringU s h m).getD j undef):=fun j c hj=>by
    have hlt:j < 10:=by
     have:=(List.getElem?_eq_some_iff.1 hj).1
     simpa [ringC] using this
    refine ⟨hlt,?_⟩
    rcases (show j=0\/j=1\/j=2\/j=3\/j=4\/j=5\/j=6\/j=7\/j=8\/j=9 by omega) with e|e|e|e|e|e|e|e|e|e <;> subst e <;> (simp only [ringC] at hj; cases hj; exact ⟨rfl,rfl,fun C=>.int _ _⟩)
   exact .cp _ 0 w.heap.size 0 (fun j=>(ringU s h m).getD j undef) (fun j c hj=>⟨by rw [Nat.zero_add]; exact hnew j (key j c hj).1,⟨rfl,by have:=(key j c hj).1; omega⟩,(key j c hj).2.2.1⟩) (fun j c hj=>(key j c hj).2.1) (fun j c hj=>(key j c hj).2.2.2 _)
  |succ j=>simp at hj
theorem all_yields (s:Nat->Int) (h m:Int) (xs:List Int) (r:RingIs s h m xs):YieldsV Try.prog 119 [.cp (ringC s h m) 0] (xs.map fun x=>[.int .i64 x]):=by
 intro w F G lb hl hR
 obtain ⟨u,rfl⟩ : ∃ u,lb=[u]:=by
  cases lb with
  |nil=>cases hl
  |cons u l=>cases l with
   |nil=>exact ⟨u,rfl⟩
   |cons _ _=>simp at hl
 have h0:=hR 0 _ rfl
 simp only [List.getD_cons_zero] at h0
 obtain ⟨Bn,base,rfl,hcs⟩ : ∃ Bn base,u=.pointer (some ⟨Bn,base,none⟩)/\∀ j,j < 10->w.cell? ⟨Bn,base+j,none⟩=some ((ringU s h m).getD j undef)/\F Bn (base+j):=by
  cases h0 with
  |cp cs off b base g hcell hcl hr =>
   refine ⟨b,base,by simp,fun j hj=>?_⟩
   obtain ⟨c,hc⟩ : ∃ c,(ringC s h m)[j]?=some c:=⟨_,List.getElem?_eq_getElem (by simpa [ringC] using hj)⟩
   obtain ⟨h1,h2,_⟩:=hcell j c hc
   have h4:=hr j c hc
   refine ⟨h1.trans ?_,h2⟩
   clear h1 h2
   generalize g j=x at h4 ⊢
   rcases (show j=0\/j=1\/j=2\/j=3\/j=4\/j=5\/j=6\/j=7\/j=8\/j=9 by omega) with e|e|e|e|e|e|e|e|e|e <;> subst e <;> (simp only [ringC] at hc; cases hc; cases h4; rfl)
 have hlen:(xs.map fun x=>[V.int .i64 x]).length=xs.length:=by simp
 refine ⟨fun i=>[.int .i64 (xs.getD i.val 0)],fun i=>?_,fun n=>?_⟩
 ·have hi:i.val < xs.length:=by have:=i.isLt; omega
  have hg:(xs.map fun x=>[V.int .i64 x]).get i=[V.int .i64 (xs.getD i.val 0)]:=by
   simp [List.getD_eq_getElem?_getD,List.getElem?_eq_getElem hi]
  refine ⟨by rw [hg]; rfl,fun w' G' _ j c hj=>?_⟩
  rw [hg] at hj
  cases j with
  |zero=>cases hj; exact .int _ _
  |succ j=>simp at hj
 ·intro l J Jx W hW hJ _ hY h0
  have hc:CellsAt W Bn base s h m:=cells_below (A:=w) hW (fun j hj=>(hcs j hj).1)
  refine CallsIn.mono (all1_in n l Bn base s h m xs _ hlen r J Jx (fun A B=>∀ b off x,F b off->A.cell? ⟨b,off,none⟩=some x->B.cell? ⟨b,off,none⟩=some x)
   (fun A B hk hA j hj=>hk _ _ _ (hcs j hj).2 (hA j hj)) hY W hJ hc h0) ?_
  rintro e W' ⟨hv,h⟩
  refine ⟨hv,?_⟩
  rcases h with ⟨ys,hys,hJy⟩|⟨pre,_,hJp⟩
  ·refine .inl ⟨ys,?_,hJy⟩
   refine List.ext_getElem? fun j=>?_
   have hj:=congrArg (fun l=>l[j]?) hys
   simp only [List.getElem?_map] at hj ⊢
   rcases Nat.lt_or_ge j (xs.map fun x=>[V.int .i64 x]).length with hlt|hge
   ·rw [List.getElem?_range hlt] at hj
    cases hy:ys[j]? with
    |none=>rw [hy] at hj; cases hj
    |some y =>
     rw [hy] at hj
     simp only [Option.map_some,Option.some.injEq] at hj ⊢
     have:y=⟨j,hlt⟩:=Fin.ext hj
     subst this
     have hlt':j < xs.length:=by simpa using hlt
     simp [List.getElem?_eq_getElem hlt']
   ·have hyl:ys.length=(xs.map fun x=>[V.int .i64 x]).length:=by
     have:=congrArg List.length hys
     simpa using this
    rw [List.getElem?_eq_none (l:=ys) (by omega),List.getElem?_eq_none (l:=xs) (by rw [hlen] at hge; exact hge)]; rfl
  ·exact .inr ⟨pre,trivial,hJp⟩
end Go.Proofs

namespace Go.Ab
open Go Go.Proofs
set_option maxRecDepth 100000
theorem can_all1:callable Try.prog 119=true:=by kernel_rfl
structure QuI where
 rs:List (List V)
 n:Nat
set_option maxHeartbeats 4000000 in
theorem c95 (p:PD) (hm:mayR p.r=true):CallsV Try.prog 95 [.agg (pC p)] (.own 1 ((queueOf p).map iC)) [.undef] true:=by
 have cl:=Go.Proofs.c110 p.r.f p.r.h p.r.n
 have hy:=Go.Proofs.all_yields p.r.f p.r.h p.r.n (listR p.r) (listR_is hm)
 have hl:=listR_len p.r
 rw [<- rC_ring] at cl hy
 unfold queueOf
 obtain ⟨xs,hxs⟩ : ∃ xs:List (List V),xs=(listR p.r).map fun x=>[.int .i64 x]:=⟨_,rfl⟩
 have hxl:xs.length<=8:=by rw [hxs]; simpa using hl
 have hxi:(listR p.r).map iC=xs:=hxs.symm
 have hin:∀ vs∈xs,∃ x:Int,vs=[.int .i64 x]:=fun vs h=>by
  rw [hxs] at h
  obtain ⟨x,_,rfl⟩:=List.mem_map.1 h
  exact ⟨x,rfl⟩
 have hfr:okRows true xs=true:=by rw [<- hxi]; exact fr_iC _
 rw [<- hxs] at hy
 rw [List.map_append,hxi]
 clear hxs hl hxi hm
 obtain ⟨m,nx,⟨b0,b1,b2,b3,b4,b5,b6,b7,hh,n⟩,sq⟩:=p
 dsimp only at cl hy ⊢
 refine callsV_q hD Try.func95 ok95 rfl rfl rfl fun P Q hP hQ=>?_
 try rw [<- hP] at cl
 repeat' (cbv; first|refine .y ?_|refine .n ?_|refine .s (fun hc=>?_) fun hc=>?_|refine CanQ.to (hP ▸ can_all1) ?_|refine .gq cl ?_|refine .a fun v hv=>?_|refine .d ?_|refine .u fun vr vn hvr hvn hvl=>?_|fail)
 all_goals (try cbv)
 ·have hbs:([]:List (List V))=(if nx=0 then [] else [nx]).map iC:=by rw [if_pos (by omega)]; rfl
  have hl0:([]:List (List V)).length<=1:=by simp
  rw [<- hbs] at hQ
  have hfb:okRows true ([]:List (List V))=true:=rfl
  clear hbs
  refine RngQ.to (ι:=QuI) (hP ▸ hy) (fun vs h=>by obtain ⟨x,rfl⟩:=hin vs h; exact ⟨rfl,rfl⟩)
   (fun p=>⟨tab .undef [(3,.ptr 101 0)],tab .dead [(101,.box [.sref 102 0 p.n]),(102,.rows 1 p.rs)]⟩)
   (fun pre p=>p.rs=([]:List (List V)) ++ pre/\p.n=p.rs.length) ⟨([]:List (List V)),0⟩ ⟨by simp,rfl⟩ rfl (fun pre vs p hvs hpre hlt hok A hA=>?_) (fun p hok=>?_)
  ·obtain ⟨rs,n1⟩:=p
   obtain ⟨hrs,hn⟩:=hok
   dsimp only at hrs hn ⊢
   have lrs:rs.length<=10:=by rw [hrs,List.length_append]; omega
   obtain ⟨x,rfl⟩:=hin vs hvs
   repeat' (cbv; first|refine .y ?_|refine .n ?_|refine .s (fun hc=>?_) fun hc=>?_|refine .a fun v hv=>?_|refine .d ?_|refine .u fun vr vn hvr hvn hvl=>?_|fail)
   all_goals (try cbv)
   exact hA ⟨vr,vn⟩ _ ⟨by dsimp only; rw [hvr,hrs,List.append_assoc],hvn⟩ rfl
  ·obtain ⟨rs,n1⟩:=p
   obtain ⟨hrs,hn⟩:=hok
   dsimp only at hrs hn ⊢
   repeat' (cbv; first|refine .y ?_|refine .n ?_|refine .s (fun hc=>?_) fun hc=>?_|refine .a fun v hv=>?_|refine .d ?_|refine .u fun vr vn hvr hvn hvl=>?_|fail)
   all_goals (try cbv)
   refine hQ _ ?_
   exact Leave.own rfl rfl hn hrs.symm (by rw [hrs,okRows_app,hfb,hfr]; rfl) rfl
 ·have hbs:vr=(if nx=0 then [] else [nx]).map iC:=by rw [if_neg (by omega),hvr]; rfl
  have hl0:vr.length<=1:=by rw [hvr]; simp
  rw [<- hbs] at hQ
  have hfb:okRows true vr=true:=by rw [hbs]; exact fr_iC _
  clear hbs
  obtain ⟨br,hbr⟩ : ∃ br,br=vr:=⟨_,rfl⟩
  obtain ⟨bn,hbn⟩ : ∃ bn,bn=vn:=⟨_,rfl⟩
  rw [<- hbr] at hQ hvn hl0 hfb ⊢
  rw [<- hbn] at hvn ⊢
  clear hbr hbn hvr hvl
  refine RngQ.to (ι:=QuI) (hP ▸ hy) (fun vs h=>by obtain ⟨x,rfl⟩:=hin vs h; exact ⟨rfl,rfl⟩)
   (fun p=>⟨tab .undef [(3,.ptr 101 0)],tab .dead [(101,.box [.sref 102 0 p.n]),(102,.rows 1 p.rs)]⟩)
   (fun pre p=>p.rs=br ++ pre/\p.n=p.rs.length) ⟨br,bn⟩ ⟨by simp,hvn⟩ rfl (fun pre vs p hvs hpre hlt hok A hA=>?_) (fun p hok=>?_)
  ·obtain ⟨rs,n1⟩:=p
   obtain ⟨hrs,hn⟩:=hok
   dsimp only at hrs hn ⊢
   have lrs:rs.length<=10:=by rw [hrs,List.length_append]; omega
   obtain ⟨x,rfl⟩:=hin vs hvs
   repeat' (cbv; first|refine .y ?_|refine .n ?_|refine .s (fun hc=>?_) fun hc=>?_|refine .a fun v hv=>?_|refine .d ?_|refine .u fun vr vn hvr hvn hvl=>?_|fail)
   all_goals (try cbv)
   exact hA ⟨vr,vn⟩ _ ⟨by dsimp only; rw [hvr,hrs,List.append_assoc],hvn⟩ rfl
  ·obtain ⟨rs,n1⟩:=p
   obtain ⟨hrs,hn⟩:=hok
   dsimp only at hrs hn ⊢
   repeat' (cbv; first|refine .y ?_|refine .n ?_|refine .s (fun hc=>?_) fun hc=>?_|refine .a fun v hv=>?_|refine .d ?_|refine .u fun vr vn hvr hvn hvl=>?_|fail)
   all_goals (try cbv)
   refine hQ _ ?_
   exact Leave.own rfl rfl hn hrs.symm (by rw [hrs,okRows_app,hfb,hfr]; rfl) rfl
end Go.Ab
