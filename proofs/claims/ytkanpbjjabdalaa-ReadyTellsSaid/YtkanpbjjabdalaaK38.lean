/-
  law13: the document's answers (R13): a G is out of all that waits.
  law13: the document's answers (R13): Yield, Drain, Next.
  law13: the document's answers (R13): Wake.
-/
import Derived.Test.YtkanpbjjabdalaaK31
import Derived.Test.YtkanpbjjabdalaaK34
import Derived.Test.YtkanpbjjabdalaaK37
set_option linter.all false
namespace Go.Ab
open Go Go.Proofs
set_option maxRecDepth 100000
variable {P:Program} {F:Fs}
theorem filterT_next {l:List TD} {g:Int} {x:TD} {i:Nat} (hx:l[i]?=some x):(l.take (i+1)).filter (fun y=>decide (y.g≠g))=(l.take i).filter (fun y=>decide (y.g≠g)) ++ if x.g=g then [] else [x]:=by
 obtain ⟨hl,rfl⟩:=List.getElem?_eq_some_iff.1 hx
 rw [List.take_succ_eq_append_getElem hl,List.filter_append]
 congr 1
 by_cases e:l[i].g=g
 ·simp [e]
 ·simp [e]
def stU (F:Fs) (s:SD):List V :=
 [.own 1 (F.m fC s.prog),.own 5 (F.m gC s.gs),.own 13 (F.m pC s.ps),.own 2 (F.m mC s.ms),.own 1 (F.m iC s.gl),.int .i64 s.c0,.int .i64 s.c1,.int .i64 s.c2,.int .i64 s.c3,.sl true 1 (F.m iC s.w0),.sl true 1 (F.m iC s.w1),.sl true 1 (F.m iC s.w2),.sl true 1 (F.m iC s.w3),.own 2 (F.m tC s.ts),.int .i64 s.ck,.int .i64 s.pr]
set_option maxHeartbeats 8000000 in
theorem d45 (hP:P=Try.prog) (hF:F=fs) (s t:SD) (g:Int) (hs:Fit s) (ht:t=outS s g) :
  CallsV P 45 [.agg (stS F s),.int .i64 g] (.agg (stU F t)) [.undef,.undef] false:=by
 have kc:=q_rCopy hP hF s hs
 obtain ⟨u0,h0⟩ : ∃ u,u=s.w0.filter fun x=>decide (x≠g):=⟨_,rfl⟩
 obtain ⟨u1,h1⟩ : ∃ u,u=s.w1.filter fun x=>decide (x≠g):=⟨_,rfl⟩
 obtain ⟨u2,h2⟩ : ∃ u,u=s.w2.filter fun x=>decide (x≠g):=⟨_,rfl⟩
 obtain ⟨u3,h3⟩ : ∃ u,u=s.w3.filter fun x=>decide (x≠g):=⟨_,rfl⟩
 obtain ⟨ut,hu⟩ : ∃ u,u=s.ts.filter fun x=>decide (x.g≠g):=⟨_,rfl⟩
 have k0:=d94 hP hF s.w0 hs.w0 g u0 h0
 have k1:=d94 hP hF s.w1 hs.w1 g u1 h1
 have k2:=d94 hP hF s.w2 hs.w2 g u2 h2
 have k3:=d94 hP hF s.w3 hs.w3 g u3 h3
 have et:t={ s with w0:=u0,w1:=u1,w2:=u2,w3:=u3,ts:=ut }:=by
  rw [ht,h0,h1,h2,h3,hu]; rfl
 obtain ⟨k,hk⟩ : ∃ k,F.n s.ts=k:=⟨_,rfl⟩
 have hkn:0<=k/\k.toNat=s.ts.length:=by
  have:k=(s.ts.length:Nat):=by rw [<- hk,hF]; rfl
  omega
 have hts:=hs.ts
 have hk6:k<=1000000:=by omega
 clear ht h0 h1 h2 h3 hs
 refine callsV_f hD Try.func45 ok45 hP hF (by simp only [List.map_cons,List.map_nil,V.sh,sh_F hF,sh_O hF,sh_F' hF,sh_S hF]) fun R hQ=>?_
 repeat' (cbv; first|refine .y ?_|refine .n ?_|refine .s (fun hc=>?_) fun hc=>?_|refine .z kc ?_|refine .v ?_|refine .r ?_|refine .e fun v hv=>?_|refine .a fun v hv=>?_|refine .d ?_|refine .fa ?_|refine .f1 ?_|refine .u fun vr vn hvr hvn hvl=>?_|fail)
 all_goals (try cbv)
 refine LoopQ.to (ι:=Int×Nat) (fun q=>⟨tab .undef [(1,.int .i64 g),(2,.ptr 100 0),(4,.ptr 101 0),(5,.ptr 122 0),(6,.int .i64 q.1)],
  tab
    .dead [(100,.box [.sref 112 0 (F.l (F.m fC s.prog)),.sref 113 0 (F.l (F.m gC s.gs)),.sref 114 0 (F.l (F.m pC s.ps)),.sref 115 0 (F.l (F.m mC s.ms)),.sref 116 0 (F.l (F.m iC s.gl)),.int .i64 s.c0,.int .i64 s.c1,.int .i64 s.c2,.int .i64 s.c3,
    .sref 117 0 (F.l (F.m iC s.w0)),.sref 118 0 (F.l (F.m iC s.w1)),.sref 119 0 (F.l (F.m iC s.w2)),.sref 120 0 (F.l (F.m iC s.w3)),.sref 121 0 (F.l (F.m tC s.ts)),.int .i64 s.ck,.int .i64 s.pr]),
   (101,.box [.nils 1,.nils 5,.nils 13,.nils 2,.nils 1,.int .i64 0,.int .i64 0,.int .i64 0,.int .i64 0,.nils 1,.nils 1,.nils 1,.nils 1,.nils 2,.int .i64 0,.int .i64 0]),
   (112,.rows 1 (F.m fC s.prog)),(113,.rows 5 (F.m gC s.gs)),(114,.rows 13 (F.m pC s.ps)),(115,.rows 2 (F.m mC s.ms)),(116,.rows 1 (F.m iC s.gl)),(117,.rows 1 (F.m iC s.w0)),(118,.rows 1 (F.m iC s.w1)),(119,.rows 1 (F.m iC s.w2)),(120,.rows 1 (F.m iC s.w3)),(121,.rows 2 (F.m tC s.ts)),
   (122,.box [byN q.2 0 (.sl true 1 (F.m iC u0)) (.sref 117 0 (F.l (F.m iC s.w0))),byN q.2 1 (.sl true 1 (F.m iC u1)) (.sref 118 0 (F.l (F.m iC s.w1))),byN q.2 2 (.sl true 1 (F.m iC u2)) (.sref 119 0 (F.l (F.m iC s.w2))),byN q.2 3 (.sl true 1 (F.m iC u3)) (.sref 120 0 (F.l (F.m iC s.w3)))])]⟩)
  (fun q=>(q.1=0/\q.2=0)\/(q.1=1/\q.2=1)\/(q.1=2/\q.2=2)\/(q.1=3/\q.2=3)\/(q.1=4/\q.2=4)) (fun q=>(4 - q.1).toNat) (0,0) (.inl ⟨rfl,rfl⟩) (by rfl) fun ⟨i,n⟩ hp B hB=>?_
 dsimp only at hp
 rcases hp with ⟨rfl,rfl⟩|⟨rfl,rfl⟩|⟨rfl,rfl⟩|⟨rfl,rfl⟩|⟨rfl,rfl⟩
 ·repeat' (cbv; first|refine .y ?_|refine .n ?_|refine .s (fun hc=>?_) fun hc=>?_|refine .z k0 ?_|refine .v ?_|refine .r ?_|refine .e fun v hv=>?_|refine .a fun v hv=>?_|refine .d ?_|refine .fa ?_|refine .f1 ?_|refine .u fun vr vn hvr hvn hvl=>?_|fail)
  all_goals (try cbv)
  exact hB (v,1) _ (.inr (.inl ⟨by rw [hv]; rfl,rfl⟩)) (by dsimp only; omega) (by cbv)
 ·repeat' (cbv; first|refine .y ?_|refine .n ?_|refine .s (fun hc=>?_) fun hc=>?_|refine .z k1 ?_|refine .v ?_|refine .r ?_|refine .e fun v hv=>?_|refine .a fun v hv=>?_|refine .d ?_|refine .fa ?_|refine .f1 ?_|refine .u fun vr vn hvr hvn hvl=>?_|fail)
  all_goals (try cbv)
  exact hB (v,2) _ (.inr (.inr (.inl ⟨by rw [hv]; rfl,rfl⟩))) (by dsimp only; omega) (by cbv)
 ·repeat' (cbv; first|refine .y ?_|refine .n ?_|refine .s (fun hc=>?_) fun hc=>?_|refine .z k2 ?_|refine .v ?_|refine .r ?_|refine .e fun v hv=>?_|refine .a fun v hv=>?_|refine .d ?_|refine .fa ?_|refine .f1 ?_|refine .u fun vr vn hvr hvn hvl=>?_|fail)
  all_goals (try cbv)
  exact hB (v,3) _ (.inr (.inr (.inr (.inl ⟨by rw [hv]; rfl,rfl⟩)))) (by dsimp only; omega) (by cbv)
 ·repeat' (cbv; first|refine .y ?_|refine .n ?_|refine .s (fun hc=>?_) fun hc=>?_|refine .z k3 ?_|refine .v ?_|refine .r ?_|refine .e fun v hv=>?_|refine .a fun v hv=>?_|refine .d ?_|refine .fa ?_|refine .f1 ?_|refine .u fun vr vn hvr hvn hvl=>?_|fail)
  all_goals (try cbv)
  exact hB (v,4) _ (.inr (.inr (.inr (.inr ⟨by rw [hv]; rfl,rfl⟩)))) (by dsimp only; omega) (by cbv)
 ·clear hB k0 k1 k2 k3 kc
  repeat' (cbv; first|refine .y ?_|refine .n ?_|refine .s (fun hc=>?_) fun hc=>?_|refine .v ?_|refine .r ?_|refine .e fun v hv=>?_|refine .a fun v hv=>?_|refine .d ?_|refine .fa ?_|refine .f1 ?_|refine .u fun vr vn hvr hvn hvl=>?_|fail)
  all_goals (try cbv)
  refine LoopQ.to (ι:=WiI) (fun q=>⟨tab .undef [(1,.int .i64 g),(2,.ptr 100 0),(4,.ptr 101 0),(7,.sref 127 0 q.n),(8,.int .i64 q.i)],
   tab .dead [(100,.box [.sref 112 0 (F.l (F.m fC s.prog)),.sref 113 0 (F.l (F.m gC s.gs)),.sref 114 0 (F.l (F.m pC s.ps)),.sref 115 0 (F.l (F.m mC s.ms)),.sref 116 0 (F.l (F.m iC s.gl)),.int .i64 s.c0,.int .i64 s.c1,.int .i64 s.c2,.int .i64 s.c3,
    .sl true 1 (F.m iC u0),.sl true 1 (F.m iC u1),.sl true 1 (F.m iC u2),.sl true 1 (F.m iC u3),.sref 121 0 (F.l (F.m tC s.ts)),.int .i64 s.ck,.int .i64 s.pr]),
   (101,.box [.nils 1,.nils 5,.nils 13,.nils 2,.nils 1,.int .i64 0,.int .i64 0,.int .i64 0,.int .i64 0,.nils 1,.nils 1,.nils 1,.nils 1,.nils 2,.int .i64 0,.int .i64 0]),
   (112,.rows 1 (F.m fC s.prog)),(113,.rows 5 (F.m gC s.gs)),(114,.rows 13 (F.m pC s.ps)),(115,.rows 2 (F.m mC s.ms)),(116,.rows 1 (F.m iC s.gl)),(121,.rows 2 (F.m tC s.ts)),(127,.rows 2 q.rs)]⟩)
   (fun p=>0<=p.i/\p.i<=k/\p.rs=F.m tC ((s.ts.take p.i.toNat).filter fun y=>decide (y.g≠g))/\p.n=F.l p.rs) (fun p=>(k - p.i).toNat) ⟨0,[],0⟩ ⟨by simp,by dsimp only; omega,by subst hF; rfl,by subst hF; rfl⟩ rfl fun ⟨i,rs,n⟩ ⟨i0,i1,hrs,hn⟩ A hA=>?_
  dsimp only at i0 i1 hrs hn ⊢
  obtain ⟨a,ha⟩ : ∃ a,a=(s.ts.take i.toNat).filter fun y=>decide (y.g≠g):=⟨_,rfl⟩
  rw [<- ha] at hrs
  subst hrs hn
  have fa:Few F a:=⟨by
   have h1:a.length<=(s.ts.take i.toNat).length:=by rw [ha]; exact List.length_filter_le _ _
   rw [List.length_take] at h1
   rw [hF]; show ((a.length:Nat):Int)<=_; omega⟩
  by_cases hi:i < k
  ·obtain ⟨q,hq⟩ : ∃ q,i=q - 1:=⟨i+1,by omega⟩
   have hin:In F s.ts q:=⟨by omega,by rw [hk]; omega⟩
   have hw:=List.getElem?_eq_getElem (l:=s.ts) (i:=i.toNat) (by omega)
   obtain ⟨x0,x1,hx,ex0,ex1⟩:=elT (F.g s.ts q)
   have hgx:s.ts[i.toNat]?=some ⟨x0,x1⟩:=by
    rw [hw]; congr 1
    have:F.g s.ts q=s.ts.getD (q.toNat - 1) default:=by rw [hF]; rfl
    rw [<- hx,this,show q.toNat - 1=i.toNat by omega,List.getD_eq_getElem?_getD,hw]; rfl
   have hnx:=filterT_next (g:=g) hgx
   rw [<- ha] at hnx
   obtain ⟨v,hv⟩ : ∃ v,v=i+1:=⟨_,rfl⟩
   rw [show i.toNat+1=v.toNat by omega] at hnx
   by_cases hg:x1=g
   ·rw [if_pos hg,List.append_nil] at hnx
    have hnx':F.m tC a=F.m tC ((s.ts.take v.toNat).filter fun y=>decide (y.g≠g)):=by rw [hnx]
    clear hkn hnx ha hw hgx
    repeat' (cbv; first|refine .y ?_|refine .n ?_|refine .s (fun hc=>?_) fun hc=>?_|refine .v ?_|refine .r ?_|refine .e fun v hv=>?_|refine .a fun v hv=>?_|refine .d ?_|refine .fa ?_|refine .f1 ?_|refine .u fun vr vn hvr hvn hvl=>?_|fail)
    all_goals (try cbv)
    all_goals first
     |exact hA ⟨v,F.m tC a,F.l (F.m tC a)⟩ _ ⟨by dsimp only; omega,by dsimp only; omega,hnx',rfl⟩ (by dsimp only; omega) (by cbv)
     |(exfalso; omega)
   ·rw [if_neg hg] at hnx
    have hnx':F.m tC (F.a a [⟨x0,x1⟩])=F.m tC ((s.ts.take v.toNat).filter fun y=>decide (y.g≠g)):=by rw [hnx,hF]; rfl
    clear hkn hnx ha hw hgx
    repeat' (cbv; first|refine .y ?_|refine .n ?_|refine .s (fun hc=>?_) fun hc=>?_|refine .v ?_|refine .r ?_|refine .e fun v hv=>?_|refine .a fun v hv=>?_|refine .d ?_|refine .fa ?_|refine .f1 ?_|refine .u fun vr vn hvr hvn hvl=>?_|fail)
    all_goals (try cbv)
    all_goals first
     |exact hA ⟨v,F.m tC (F.a a [⟨x0,x1⟩]),F.l (F.m tC (F.a a [⟨x0,x1⟩]))⟩ _ ⟨by dsimp only; omega,by dsimp only; omega,hnx',rfl⟩ (by dsimp only; omega) (by cbv)
     |(exfalso; omega)
  ·have e:a=ut:=by rw [ha,hu,List.take_of_length_le (by omega)]
   subst e
   clear hA ha hu hkn
   repeat' (cbv; first|refine .y ?_|refine .n ?_|refine .s (fun hc=>?_) fun hc=>?_|refine .v ?_|refine .r ?_|refine .e fun v hv=>?_|refine .a fun v hv=>?_|refine .d ?_|refine .fa ?_|refine .f1 ?_|refine .u fun vr vn hvr hvn hvl=>?_|fail)
   all_goals (try cbv)
   all_goals first
    |(exfalso; omega)
    |(refine hQ _ ⟨?_,?_,?_,?_,?_⟩ <;> (try cbv) <;> (repeat' first|exact True.intro|exact rfl|assumption|exact lenU|exact frM|exact FrR.mk rfl|exact FrS.mk rfl|refine ⟨?_,?_⟩|(subst_vars; rfl)|fail))
end Go.Ab

namespace Go.Ab
open Go Go.Proofs
set_option maxRecDepth 100000
variable {P:Program} {F:Fs}
theorem q_QueueOf (hP:P=Try.prog) (hF:F=fs) (x:PD) (l:List Int) (hl:l=queueOf x):CallsV P 48 [.agg (pC x)] (.own 1 (F.m iC l)) [.undef] true:=by
 have:=c48 x
 subst hF hl; rwa [<- hP] at this
set_option maxHeartbeats 4000000 in
theorem d17f (hP:P=Try.prog) (hF:F=fs) (s:SD) (hs:Fit s) (m:Int) (hb:yieldOk s m=false) :
  CallsV P 17 [.agg (stS F s),.int .i64 m] (.tup [zeroV,.int .i64 1]) [.undef,.undef] true:=by
 obtain ⟨k,hk⟩ : ∃ k,F.n s.ms=k:=⟨_,rfl⟩
 have hk':k=s.ms.length:=by rw [<- hk,nM hF]
 have hk6:k<=1000000:=by have:=hs.ms; omega
 have hms:=hs.ms
 unfold yieldOk at hb
 cases hm:mayS s with
 |false =>
  have k1:=q_rMay hP hF s hs _ hm.symm
  refine callsV_f hD Try.func17 ok17 hP hF (by simp only [List.map_cons,List.map_nil,V.sh,sh_F hF,sh_O hF,sh_F' hF,sh_S hF]) fun R hQ=>?_
  repeat' (cbv; first|refine .y ?_|refine .n ?_|refine .s (fun hc=>?_) fun hc=>?_|refine .z k1 ?_|refine .v ?_|refine .r ?_|refine .e fun v hv=>?_|refine .a fun v hv=>?_|refine .d ?_|refine .fa ?_|refine .f1 ?_|refine .u fun vr vn hvr hvn hvl=>?_|fail)
  all_goals (try cbv)
  (refine hQ _ ⟨?_,?_,?_,?_,?_⟩ <;> (try cbv) <;> (repeat' first|exact True.intro|exact rfl|assumption|exact lenU|exact frM|exact FrR.mk rfl|exact FrS.mk rfl|refine ⟨?_,?_⟩|(subst_vars; rfl)|fail))
 |true =>
  have k1:=q_rMay hP hF s hs _ hm.symm
  rw [hm,Bool.true_and] at hb
  by_cases hc:1<=m/\m<=k
  ·have k2:=d42 hP hF m k true (by simpa using hc)
   have hi:In F s.ms m:=⟨hc.1,by rw [hk]; exact hc.2⟩
   obtain ⟨y0,y1,hy,ey0,ey1⟩:=elM (F.g s.ms m)
   rw [gM hF] at ey0 ey1
   have hz:y0=0\/y1=0:=by
    rw [decide_eq_false_iff_not,<- ey0,<- ey1] at hb
    by_cases e:y0=0
    ·exact .inl e
    ·by_cases e':y1=0
     ·exact .inr e'
     ·exact absurd ⟨hc.1,by omega,e,e'⟩ hb
   clear hb ey0 ey1 hs hm
   refine callsV_f hD Try.func17 ok17 hP hF (by simp only [List.map_cons,List.map_nil,V.sh,sh_F hF,sh_O hF,sh_F' hF,sh_S hF]) fun R hQ=>?_
   repeat' (cbv; first|refine .y ?_|refine .n ?_|refine .s (fun hc=>?_) fun hc=>?_|refine .z k1 ?_|refine .z k2 ?_|refine .v ?_|refine .r ?_|refine .e fun v hv=>?_|refine .a fun v hv=>?_|refine .d ?_|refine .fa ?_|refine .f1 ?_|refine .u fun vr vn hvr hvn hvl=>?_|fail)
   all_goals (try cbv)
   all_goals first
    |(exfalso; omega)
    |(refine hQ _ ⟨?_,?_,?_,?_,?_⟩ <;> (try cbv) <;> (repeat' first|exact True.intro|exact rfl|assumption|exact lenU|exact frM|exact FrR.mk rfl|exact FrS.mk rfl|refine ⟨?_,?_⟩|(subst_vars; rfl)|fail))
  ·have k2:=d42 hP hF m k false (by simpa using hc)
   refine callsV_f hD Try.func17 ok17 hP hF (by simp only [List.map_cons,List.map_nil,V.sh,sh_F hF,sh_O hF,sh_F' hF,sh_S hF]) fun R hQ=>?_
   repeat' (cbv; first|refine .y ?_|refine .n ?_|refine .s (fun hc=>?_) fun hc=>?_|refine .z k1 ?_|refine .z k2 ?_|refine .v ?_|refine .r ?_|refine .e fun v hv=>?_|refine .a fun v hv=>?_|refine .d ?_|refine .fa ?_|refine .f1 ?_|refine .u fun vr vn hvr hvn hvl=>?_|fail)
   all_goals (try cbv)
   (refine hQ _ ⟨?_,?_,?_,?_,?_⟩ <;> (try cbv) <;> (repeat' first|exact True.intro|exact rfl|assumption|exact lenU|exact frM|exact FrR.mk rfl|exact FrS.mk rfl|refine ⟨?_,?_⟩|(subst_vars; rfl)|fail))
set_option maxHeartbeats 4000000 in
theorem d17t (hP:P=Try.prog) (hF:F=fs) (s t:SD) (hs:Fit s) (m:Int) (hb:yieldOk s m=true) (ht:t=yieldS s m) :
  CallsV P 17 [.agg (stS F s),.int .i64 m] (.tup [.agg (stF F .n .o t),.int .i64 0]) [.undef,.undef] false:=by
 obtain ⟨k,hk⟩ : ∃ k,F.n s.ms=k:=⟨_,rfl⟩
 have hk':k=s.ms.length:=by rw [<- hk,nM hF]
 have hk6:k<=1000000:=by have:=hs.ms; omega
 have hms:=hs.ms
 unfold yieldOk at hb
 simp only [Bool.and_eq_true,decide_eq_true_eq] at hb
 obtain ⟨hm,m1,m2,hp0,hg0⟩:=hb
 have ho:=(may_ok s).1 hm
 have k1:=q_rMay hP hF s hs _ hm.symm
 have k2:=d42 hP hF m k true (by simp; omega)
 have hi:In F s.ms m:=⟨m1,by omega⟩
 obtain ⟨y0,y1,hy,ey0,ey1⟩:=elM (F.g s.ms m)
 have hy0:y0≠0:=by rw [ey0,gM hF]; exact hp0
 have hy1:y1≠0:=by rw [ey1,gM hF]; exact hg0
 have hmm:s.ms[m.toNat - 1]?=some ⟨y0,y1⟩:=by rw [getM_of (by omega),<- gM hF,hy]
 have hin:1<=y1/\y1<=s.gs.length:=by
  refine ho.inT y1 (List.mem_map.2 ⟨⟨y0,y1⟩,List.mem_filter.2 ⟨List.mem_of_getElem? hmm,?_⟩,rfl⟩)
  simp [hy0,hy1]
 have hgs:=hs.gs
 have hG:In F s.gs y1:=⟨hin.1,by rw [nG hF]; exact hin.2⟩
 have hsq:=ho.gs _ (List.mem_of_getElem? (getG_of (s:=s) (p:=y1) (by omega)))
 unfold okG at hsq
 simp only [Bool.and_eq_true,decide_eq_true_eq] at hsq
 obtain ⟨t1,h1⟩ : ∃ t,t=turnS s y1 1 0:=⟨_,rfl⟩
 have k4:=d44 hP hF s t1 hs y1 1 0 hG (by rw [gG hF]; omega) h1
 have hf1:Fit t1:=by rw [h1]; exact fit_turn hs _ _ _
 have e1:t1.ms=s.ms:=by rw [h1]; rfl
 have e2:t1.gl=s.gl:=by rw [h1]; rfl
 obtain ⟨t2,h2⟩ : ∃ t,t={ t1 with ms:=F.u t1.ms m ⟨y0,0⟩ }:=⟨_,rfl⟩
 have k5:=d46 hP hF t1 t2 hf1 m ⟨y0,0⟩ (by rw [e1]; exact hi) h2
 have e3:t2.gl=s.gl:=by rw [h2]; exact e2
 have ht':t={ t2 with gl:=F.a t2.gl [y1] }:=by
  have ex0:(getM s m).p=y0:=by rw [ey0,gM hF]
  have ex1:(getM s m).g=y1:=by rw [ey1,gM hF]
  rw [ht]; unfold yieldS; dsimp only; rw [ex0,ex1,e3,h2,h1]; subst hF; rfl
 have fl:Few F t2.gl:=⟨by rw [e3,nL hF]; have:=hs.gl; omega⟩
 have hm6:m<=1000000:=by omega
 have hy6:1<=y1/\y1<=1000000:=by omega
 clear hsq hin hmm hgs hms hs ho hm hp0 hg0 hk' m2 h1 h2 e1 e2 e3 hf1 ht hG ey0 ey1
 refine callsV_f hD Try.func17 ok17 hP hF (by simp only [List.map_cons,List.map_nil,V.sh,sh_F hF,sh_O hF,sh_F' hF,sh_S hF]) fun R hQ=>?_
 repeat' (cbv; first|refine .y ?_|refine .n ?_|refine .s (fun hc=>?_) fun hc=>?_|refine .z k1 ?_|refine .z k2 ?_|refine .z k4 ?_|refine .z k5 ?_|refine .v ?_|refine .r ?_|refine .e fun v hv=>?_|refine .a fun v hv=>?_|refine .d ?_|refine .fa ?_|refine .f1 ?_|refine .u fun vr vn hvr hvn hvl=>?_|fail)
 all_goals (try cbv)
 all_goals first
  |(exfalso; omega)
  |(refine hQ _ ⟨?_,?_,?_,?_,?_⟩ <;> (try cbv) <;> (repeat' first|exact True.intro|exact rfl|assumption|exact lenU|exact frM|exact FrR.mk rfl|exact FrS.mk rfl|refine ⟨?_,?_⟩|(subst_vars; rfl)|fail))
set_option maxHeartbeats 4000000 in
theorem d19f (hP:P=Try.prog) (hF:F=fs) (s:SD) (hs:Fit s) (p:Int) (hb:drainOk s p=false) :
  CallsV P 19 [.agg (stS F s),.int .i64 p] (.tup [zeroV,.int .i64 1]) [.undef,.undef] true:=by
 unfold drainOk at hb
 have k1:=q_rMay hP hF s hs _ rfl
 cases hm:mayS s with
 |false =>
  rw [hm] at k1
  refine callsV_f hD Try.func19 ok19 hP hF (by simp only [List.map_cons,List.map_nil,V.sh,sh_F hF,sh_O hF,sh_F' hF,sh_S hF]) fun R hQ=>?_
  repeat' (cbv; first|refine .y ?_|refine .n ?_|refine .s (fun hc=>?_) fun hc=>?_|refine .z k1 ?_|refine .v ?_|refine .r ?_|refine .e fun v hv=>?_|refine .a fun v hv=>?_|refine .d ?_|refine .fa ?_|refine .f1 ?_|refine .u fun vr vn hvr hvn hvl=>?_|fail)
  all_goals (try cbv)
  (refine hQ _ ⟨?_,?_,?_,?_,?_⟩ <;> (try cbv) <;> (repeat' first|exact True.intro|exact rfl|assumption|exact lenU|exact frM|exact FrR.mk rfl|exact FrS.mk rfl|refine ⟨?_,?_⟩|(subst_vars; rfl)|fail))
 |true =>
  rw [hm] at k1
  rw [hm,Bool.true_and] at hb
  have k2:=d42 hP hF p s.pr false hb.symm
  refine callsV_f hD Try.func19 ok19 hP hF (by simp only [List.map_cons,List.map_nil,V.sh,sh_F hF,sh_O hF,sh_F' hF,sh_S hF]) fun R hQ=>?_
  repeat' (cbv; first|refine .y ?_|refine .n ?_|refine .s (fun hc=>?_) fun hc=>?_|refine .z k1 ?_|refine .z k2 ?_|refine .v ?_|refine .r ?_|refine .e fun v hv=>?_|refine .a fun v hv=>?_|refine .d ?_|refine .fa ?_|refine .f1 ?_|refine .u fun vr vn hvr hvn hvl=>?_|fail)
  all_goals (try cbv)
  (refine hQ _ ⟨?_,?_,?_,?_,?_⟩ <;> (try cbv) <;> (repeat' first|exact True.intro|exact rfl|assumption|exact lenU|exact frM|exact FrR.mk rfl|exact FrS.mk rfl|refine ⟨?_,?_⟩|(subst_vars; rfl)|fail))
set_option maxHeartbeats 4000000 in
theorem d19t (hP:P=Try.prog) (hF:F=fs) (s t:SD) (hs:Fit s) (p:Int) (hb:drainOk s p=true) (ht:t=drainS s p) :
  CallsV P 19 [.agg (stS F s),.int .i64 p] (.tup [.agg (stF F .n .o t),.int .i64 0]) [.undef,.undef] false:=by
 unfold drainOk at hb
 simp only [Bool.and_eq_true,decide_eq_true_eq] at hb
 obtain ⟨hm,p1,p2⟩:=hb
 have ho:=(may_ok s).1 hm
 have h8:=ho.p8
 have hpr:=ho.pr8
 have k1:=q_rMay hP hF s hs _ hm.symm
 have k2:=d42 hP hF p s.pr true (by simp; omega)
 have hi:In F s.ps p:=⟨p1,by rw [nP hF]; omega⟩
 obtain ⟨x0,x1,x2,x3,hx,ex0,ex1,ex2,ex3⟩:=elP (F.g s.ps p)
 obtain ⟨q,hq⟩ : ∃ q,q=queueOf ⟨x0,x1,x2,x3⟩:=⟨_,rfl⟩
 have k3:=q_QueueOf hP hF ⟨x0,x1,x2,x3⟩ q hq
 have fq:Few F q:=⟨by rw [hF]; show ((q.length:Nat):Int)<=_; have:=queueOf_len ⟨x0,x1,x2,x3⟩; rw [<- hq] at this; omega⟩
 obtain ⟨t2,h2⟩ : ∃ t,t={ s with ps:=F.u s.ps p ⟨x0,0,zeroR,x3⟩ }:=⟨_,rfl⟩
 have k5:=d49 hP hF s t2 hs p ⟨x0,0,zeroR,x3⟩ hi h2
 have e3:t2.gl=s.gl:=by rw [h2]
 have ht':t={ t2 with gl:=F.a t2.gl q }:=by
  have hx':getP s p=⟨x0,x1,x2,x3⟩:=by rw [<- gP hF]; exact hx
  rw [ht,hq,e3,h2]; unfold drainS; dsimp only; rw [hx']; subst hF; rfl
 have hp8:p<=8:=by omega
 have fl:Few F t2.gl:=⟨by rw [e3,nL hF]; have:=hs.gl; omega⟩
 clear hs hm ho h8 hpr p2 h2 e3 ht hq ex0 ex1 ex2 ex3
 refine callsV_f hD Try.func19 ok19 hP hF (by simp only [List.map_cons,List.map_nil,V.sh,sh_F hF,sh_O hF,sh_F' hF,sh_S hF]) fun R hQ=>?_
 repeat' (cbv; first|refine .y ?_|refine .n ?_|refine .s (fun hc=>?_) fun hc=>?_|refine .z k1 ?_|refine .z k2 ?_|refine .z k3 ?_|refine .z k5 ?_|refine .v ?_|refine .r ?_|refine .e fun v hv=>?_|refine .a fun v hv=>?_|refine .d ?_|refine .fa ?_|refine .f1 ?_|refine .u fun vr vn hvr hvn hvl=>?_|fail)
 all_goals (try cbv)
 all_goals first
  |(exfalso; omega)
  |(refine hQ _ ⟨?_,?_,?_,?_,?_⟩ <;> (try cbv) <;> (repeat' first|exact True.intro|exact rfl|assumption|exact lenU|exact frM|exact FrR.mk rfl|exact FrS.mk rfl|refine ⟨?_,?_⟩|(subst_vars; rfl)|fail))
def stW (F:Fs) (s:SD):List V :=
 [.sl true 1 (F.m fC s.prog),.sl true 5 (F.m gC s.gs),.sl true 13 (F.m pC s.ps),.sl true 2 (F.m mC s.ms),.sl true 1 (F.m iC s.gl),.int .i64 s.c0,.int .i64 s.c1,.int .i64 s.c2,.int .i64 s.c3,.sl true 1 (F.m iC s.w0),.sl true 1 (F.m iC s.w1),.sl true 1 (F.m iC s.w2),.sl true 1 (F.m iC s.w3),.sl true 2 (F.m tC s.ts),.int .i64 s.ck,.int .i64 s.pr]
set_option maxHeartbeats 4000000 in
theorem d43 (hP:P=Try.prog) (hF:F=fs) (s t:SD) (hs:Fit s) (p g:Int) (h:In F s.ps p) (hr:mayR (F.g s.ps p).r=true) (hn:(F.g s.ps p).nx=0\/1<=(F.g s.ps p).nx) (ht:t=nextS s p g) :
  CallsV P 43 [.agg (stS F s),.int .i64 p,.int .i64 g] (.agg (stW F t)) [.undef,.undef,.undef] false:=by
 obtain ⟨x0,x1,x2,x3,hx,ex0,ex1,ex2,ex3⟩:=elP (F.g s.ps p)
 rw [<- ex2] at hr
 rw [<- ex1] at hn
 have hx':getP s p=⟨x0,x1,x2,x3⟩:=by rw [<- gP hF]; exact hx
 have h1:=h.lo
 have h3:p<=1000000:=by have h2:=h.hi; rw [nP hF] at h2; have:=hs.ps; omega
 obtain ⟨t2,h2⟩ : ∃ t,t={ s with ps:=F.u s.ps p ⟨x0,g,x2,x3⟩ }:=⟨_,rfl⟩
 have k5:=d49 hP hF s t2 hs p ⟨x0,g,x2,x3⟩ h h2
 have hf2:Fit t2:=by rw [h2]; exact fit_ps hs _ _ hF
 have hi2:In F t2.ps p:=by rw [h2]; exact h.u hF
 have hg2:F.g t2.ps p=⟨x0,g,x2,x3⟩:=by rw [h2]; exact gU hF h
 have hset:t2=setP s p ⟨x0,g,x2,x3⟩:=by rw [h2]; subst hF; rfl
 unfold nextS at ht
 dsimp only at ht
 rw [hx'] at ht
 dsimp only at ht
 rw [<- hset] at ht
 rcases hn with h0|h0
 ·subst h0
  rw [if_pos rfl] at ht
  subst ht
  clear hs hf2 h2 hset
  refine callsV_f hD Try.func43 ok43 hP hF (by simp only [List.map_cons,List.map_nil,V.sh,sh_F hF,sh_O hF,sh_F' hF,sh_S hF]) fun R hQ=>?_
  repeat' (cbv; first|refine .y ?_|refine .n ?_|refine .s (fun hc=>?_) fun hc=>?_|refine .z k5 ?_|refine .v ?_|refine .r ?_|refine .e fun v hv=>?_|refine .a fun v hv=>?_|refine .d ?_|refine .fa ?_|refine .f1 ?_|refine .u fun vr vn hvr hvn hvl=>?_|fail)
  all_goals (try cbv)
  all_goals first
   |(exfalso; omega)
   |(refine hQ _ ⟨?_,?_,?_,?_,?_⟩ <;> (try cbv) <;> (repeat' first|exact True.intro|exact rfl|assumption|exact lenU|exact frM|exact FrR.mk rfl|exact FrS.mk rfl|refine ⟨?_,?_⟩|(subst_vars; rfl)|fail))
 ·rw [if_neg (by omega)] at ht
  have k6:=d22t hP hF t2 t hf2 p x1 hi2 h0 (by rw [hg2]; exact hr) ht
  clear hs hf2 h2 hset ht
  refine callsV_f hD Try.func43 ok43 hP hF (by simp only [List.map_cons,List.map_nil,V.sh,sh_F hF,sh_O hF,sh_F' hF,sh_S hF]) fun R hQ=>?_
  repeat' (cbv; first|refine .y ?_|refine .n ?_|refine .s (fun hc=>?_) fun hc=>?_|refine .z k5 ?_|refine .z k6 ?_|refine .v ?_|refine .r ?_|refine .e fun v hv=>?_|refine .a fun v hv=>?_|refine .d ?_|refine .fa ?_|refine .f1 ?_|refine .u fun vr vn hvr hvn hvl=>?_|fail)
  all_goals (try cbv)
  all_goals first
   |(exfalso; omega)
   |(refine hQ _ ⟨?_,?_,?_,?_,?_⟩ <;> (try cbv) <;> (repeat' first|exact True.intro|exact rfl|assumption|exact lenU|exact frM|exact FrR.mk rfl|exact FrS.mk rfl|refine ⟨?_,?_⟩|(subst_vars; rfl)|fail))
end Go.Ab

namespace Go.Ab
open Go Go.Proofs
set_option maxRecDepth 100000
variable {P:Program} {F:Fs}
theorem fit_out {s:SD} (hs:Fit s) (g:Int):Fit (outS s g):=by
 have hle:∀ {l:List Int} {f:Int->Bool},l.length<=1000000->(l.filter f).length<=1000000:=fun h=>Nat.le_trans (List.length_filter_le _ _) h
 exact ⟨hs.prog,hs.code,hs.gs,hs.ps,hs.ms,hs.gl,hle hs.w0,hle hs.w1,hle hs.w2,hle hs.w3,Nat.le_trans (List.length_filter_le _ _) hs.ts⟩
set_option maxHeartbeats 4000000 in
theorem d15f (hP:P=Try.prog) (hF:F=fs) (s:SD) (hs:Fit s) (p g:Int) (hb:wakeOk s p g=false) :
  CallsV P 15 [.agg (stS F s),.int .i64 p,.int .i64 g] (.tup [zeroV,.int .i64 1]) [.undef,.undef,.undef] true:=by
 obtain ⟨k,hk⟩ : ∃ k,F.n s.gs=k:=⟨_,rfl⟩
 have hk':k=s.gs.length:=by rw [<- hk,nG hF]
 have hk6:k<=1000000:=by have:=hs.gs; omega
 unfold wakeOk at hb
 have k1:=q_rMay hP hF s hs _ rfl
 cases hm:mayS s with
 |false =>
  rw [hm] at k1
  refine callsV_f hD Try.func15 ok15 hP hF (by simp only [List.map_cons,List.map_nil,V.sh,sh_F hF,sh_O hF,sh_F' hF,sh_S hF]) fun R hQ=>?_
  repeat' (cbv; first|refine .y ?_|refine .n ?_|refine .s (fun hc=>?_) fun hc=>?_|refine .z k1 ?_|refine .v ?_|refine .r ?_|refine .e fun v hv=>?_|refine .a fun v hv=>?_|refine .d ?_|refine .fa ?_|refine .f1 ?_|refine .u fun vr vn hvr hvn hvl=>?_|fail)
  all_goals (try cbv)
  (refine hQ _ ⟨?_,?_,?_,?_,?_⟩ <;> (try cbv) <;> (repeat' first|exact True.intro|exact rfl|assumption|exact lenU|exact frM|exact FrR.mk rfl|exact FrS.mk rfl|refine ⟨?_,?_⟩|(subst_vars; rfl)|fail))
 |true =>
  rw [hm] at k1
  rw [hm,Bool.true_and,decide_eq_false_iff_not] at hb
  by_cases hc:1<=p/\p<=s.pr
  ·have k2:=d42 hP hF p s.pr true (by simpa using hc)
   by_cases hd:1<=g/\g<=k
   ·have k3:=d42 hP hF g k true (by simpa using hd)
    have hi:In F s.gs g:=⟨hd.1,by rw [hk]; exact hd.2⟩
    obtain ⟨x0,x1,x2,x3,x4,hx,ex0,ex1,ex2,ex3,ex4⟩:=elG (F.g s.gs g)
    have hx2:x2≠3:=fun e=>hb ⟨hc.1,hc.2,hd.1,by omega,by rw [<- gG hF,<- ex2]; exact e⟩
    clear hb ex2 hk' hs hm
    refine callsV_f hD Try.func15 ok15 hP hF (by simp only [List.map_cons,List.map_nil,V.sh,sh_F hF,sh_O hF,sh_F' hF,sh_S hF]) fun R hQ=>?_
    repeat' (cbv; first|refine .y ?_|refine .n ?_|refine .s (fun hc=>?_) fun hc=>?_|refine .z k1 ?_|refine .z k2 ?_|refine .z k3 ?_|refine .v ?_|refine .r ?_|refine .e fun v hv=>?_|refine .a fun v hv=>?_|refine .d ?_|refine .fa ?_|refine .f1 ?_|refine .u fun vr vn hvr hvn hvl=>?_|fail)
    all_goals (try cbv)
    all_goals first
     |(exfalso; omega)
     |(refine hQ _ ⟨?_,?_,?_,?_,?_⟩ <;> (try cbv) <;> (repeat' first|exact True.intro|exact rfl|assumption|exact lenU|exact frM|exact FrR.mk rfl|exact FrS.mk rfl|refine ⟨?_,?_⟩|(subst_vars; rfl)|fail))
   ·have k3:=d42 hP hF g k false (by simpa using hd)
    refine callsV_f hD Try.func15 ok15 hP hF (by simp only [List.map_cons,List.map_nil,V.sh,sh_F hF,sh_O hF,sh_F' hF,sh_S hF]) fun R hQ=>?_
    repeat' (cbv; first|refine .y ?_|refine .n ?_|refine .s (fun hc=>?_) fun hc=>?_|refine .z k1 ?_|refine .z k2 ?_|refine .z k3 ?_|refine .v ?_|refine .r ?_|refine .e fun v hv=>?_|refine .a fun v hv=>?_|refine .d ?_|refine .fa ?_|refine .f1 ?_|refine .u fun vr vn hvr hvn hvl=>?_|fail)
    all_goals (try cbv)
    (refine hQ _ ⟨?_,?_,?_,?_,?_⟩ <;> (try cbv) <;> (repeat' first|exact True.intro|exact rfl|assumption|exact lenU|exact frM|exact FrR.mk rfl|exact FrS.mk rfl|refine ⟨?_,?_⟩|(subst_vars; rfl)|fail))
  ·have k2:=d42 hP hF p s.pr false (by simpa using hc)
   refine callsV_f hD Try.func15 ok15 hP hF (by simp only [List.map_cons,List.map_nil,V.sh,sh_F hF,sh_O hF,sh_F' hF,sh_S hF]) fun R hQ=>?_
   repeat' (cbv; first|refine .y ?_|refine .n ?_|refine .s (fun hc=>?_) fun hc=>?_|refine .z k1 ?_|refine .z k2 ?_|refine .v ?_|refine .r ?_|refine .e fun v hv=>?_|refine .a fun v hv=>?_|refine .d ?_|refine .fa ?_|refine .f1 ?_|refine .u fun vr vn hvr hvn hvl=>?_|fail)
   all_goals (try cbv)
   (refine hQ _ ⟨?_,?_,?_,?_,?_⟩ <;> (try cbv) <;> (repeat' first|exact True.intro|exact rfl|assumption|exact lenU|exact frM|exact FrR.mk rfl|exact FrS.mk rfl|refine ⟨?_,?_⟩|(subst_vars; rfl)|fail))
set_option maxHeartbeats 4000000 in
theorem d15t (hP:P=Try.prog) (hF:F=fs) (s t:SD) (hs:Fit s) (p g:Int) (hb:wakeOk s p g=true) (ht:t=wakeS s p g) :
  CallsV P 15 [.agg (stS F s),.int .i64 p,.int .i64 g] (.tup [.agg (stW F t),.int .i64 0]) [.undef,.undef,.undef] false:=by
 unfold wakeOk at hb
 simp only [Bool.and_eq_true,decide_eq_true_eq] at hb
 obtain ⟨hm,p1,p2,g1,g2,h3⟩:=hb
 have ho:=(may_ok s).1 hm
 have h8:=ho.p8
 have hpr:=ho.pr8
 have hgs:=hs.gs
 obtain ⟨k,hk⟩ : ∃ k,F.n s.gs=k:=⟨_,rfl⟩
 have hk':k=s.gs.length:=by rw [<- hk,nG hF]
 have k1:=q_rMay hP hF s hs _ hm.symm
 have k2:=d42 hP hF p s.pr true (by simp; omega)
 have k3:=d42 hP hF g k true (by simp; omega)
 have hi:In F s.ps p:=⟨p1,by rw [nP hF]; omega⟩
 have hj:In F s.gs g:=⟨g1,by omega⟩
 obtain ⟨x0,x1,x2,x3,x4,hx,ex0,ex1,ex2,ex3,ex4⟩:=elG (F.g s.gs g)
 have hx2:x2=3:=by rw [ex2,gG hF]; exact h3
 have hsq:=ho.gs _ (List.mem_of_getElem? (getG_of (s:=s) (p:=g) (by omega)))
 unfold okG at hsq
 simp only [Bool.and_eq_true,decide_eq_true_eq] at hsq
 rw [<- gG hF] at hsq
 obtain ⟨hlt,hxp,hr⟩:=P_of ho p1 p2
 have hnx:(F.g s.ps p).nx=0\/1<=(F.g s.ps p).nx:=by
  rw [gP hF]
  by_cases e:(getP s p).nx=0
  ·exact .inl e
  ·exact .inr (ho.inR _ (List.mem_append_left _ (List.mem_flatMap.2 ⟨getP s p,List.mem_of_getElem? hxp,nx_queue e⟩))).1
 obtain ⟨t1,e1⟩ : ∃ t,t=outS s g:=⟨_,rfl⟩
 have k5:=d45 hP hF s t1 g hs e1
 have f1:Fit t1:=by rw [e1]; exact fit_out hs g
 have g1s:t1.gs=s.gs:=by rw [e1]; rfl
 have p1s:t1.ps=s.ps:=by rw [e1]; rfl
 obtain ⟨t2,e2⟩ : ∃ t,t=turnS t1 g 1 0:=⟨_,rfl⟩
 have k6:=d44 hP hF t1 t2 f1 g 1 0 (by rw [g1s]; exact hj) (by rw [g1s]; omega) e2
 have f2:Fit t2:=by rw [e2]; exact fit_turn f1 _ _ _
 have p2s:t2.ps=s.ps:=by rw [e2,<- p1s]; rfl
 have k7:=d43 hP hF t2 t f2 p g (by rw [p2s]; exact hi) (by rw [p2s,gP hF]; exact hr) (by rw [p2s]; exact hnx) (by rw [ht,e2,e1]; rfl)
 have hg6:g<=1000000:=by omega
 have hk6:k<=1000000:=by omega
 clear hsq hnx hr hxp hlt hs hm ho h8 hpr hgs hk' g2 p2 h3 ht e1 e2 f1 f2 g1s p1s p2s ex0 ex1 ex2 ex3 ex4
 refine callsV_f hD Try.func15 ok15 hP hF (by simp only [List.map_cons,List.map_nil,V.sh,sh_F hF,sh_O hF,sh_F' hF,sh_S hF]) fun R hQ=>?_
 repeat' (cbv; first|refine .y ?_|refine .n ?_|refine .s (fun hc=>?_) fun hc=>?_|refine .z k1 ?_|refine .z k2 ?_|refine .z k3 ?_|refine .z k5 ?_|refine .z k6 ?_|refine .z k7 ?_|refine .v ?_|refine .r ?_|refine .e fun v hv=>?_|refine .a fun v hv=>?_|refine .d ?_|refine .fa ?_|refine .f1 ?_|refine .u fun vr vn hvr hvn hvl=>?_|fail)
 all_goals (try cbv)
 all_goals first
  |(exfalso; omega)
  |(refine hQ _ ⟨?_,?_,?_,?_,?_⟩ <;> (try cbv) <;> (repeat' first|exact True.intro|exact rfl|assumption|exact lenU|exact frM|exact FrR.mk rfl|exact FrS.mk rfl|refine ⟨?_,?_⟩|(subst_vars; rfl)|fail))
end Go.Ab
