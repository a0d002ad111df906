/-
  ready: Yield, Drain, Tail.
-/
import Derived.Test.YtkanpbjjabdalaaK23
import Derived.Test.YtkanpbjjabdalaaK27
import Derived.Test.YtkanpbjjabdalaaK28
set_option linter.all false
namespace Go.Ab
open Go Go.Proofs
set_option maxRecDepth 100000
variable {P:Program} {F:Fs}
theorem c37 (hP:P=Try.prog) (hF:F=fs) (n k:Int) (b:Bool) (hb:b=decide (1<=n/\n<=k)):CallsV P 37 [.int .i64 n,.int .i64 k] (.bool b) [.undef,.undef] true:=by
 by_cases h1:1<=n
 ·by_cases h2:n<=k
  ·rw [decide_eq_true ⟨h1,h2⟩] at hb
   subst hb
   refine callsV_f hD Try.func37 ok37 hP hF rfl fun R hQ=>?_
   repeat' (cbv; first|refine .y ?_|refine .n ?_|refine .s (fun hc=>?_) fun hc=>?_|refine .v ?_|refine .r ?_|refine .e fun v hv=>?_|refine .a fun v hv=>?_|refine .d ?_|refine .fa ?_|refine .f1 ?_|refine .u fun vr vn hvr hvn hvl=>?_|fail)
   all_goals (try cbv)
   (refine hQ _ ⟨?_,?_,?_,?_,?_⟩ <;> (try cbv) <;> (repeat' first|exact True.intro|exact rfl|assumption|exact lenU|exact frM|exact FrR.mk rfl|exact FrS.mk rfl|refine ⟨?_,?_⟩|(subst_vars; rfl)|fail))
  ·rw [decide_eq_false (fun h=>h2 h.2)] at hb
   subst hb
   refine callsV_f hD Try.func37 ok37 hP hF rfl fun R hQ=>?_
   repeat' (cbv; first|refine .y ?_|refine .n ?_|refine .s (fun hc=>?_) fun hc=>?_|refine .v ?_|refine .r ?_|refine .e fun v hv=>?_|refine .a fun v hv=>?_|refine .d ?_|refine .fa ?_|refine .f1 ?_|refine .u fun vr vn hvr hvn hvl=>?_|fail)
   all_goals (try cbv)
   (refine hQ _ ⟨?_,?_,?_,?_,?_⟩ <;> (try cbv) <;> (repeat' first|exact True.intro|exact rfl|assumption|exact lenU|exact frM|exact FrR.mk rfl|exact FrS.mk rfl|refine ⟨?_,?_⟩|(subst_vars; rfl)|fail))
 ·rw [decide_eq_false (fun h=>h1 h.1)] at hb
  subst hb
  refine callsV_f hD Try.func37 ok37 hP hF rfl fun R hQ=>?_
  repeat' (cbv; first|refine .y ?_|refine .n ?_|refine .s (fun hc=>?_) fun hc=>?_|refine .v ?_|refine .r ?_|refine .e fun v hv=>?_|refine .a fun v hv=>?_|refine .d ?_|refine .fa ?_|refine .f1 ?_|refine .u fun vr vn hvr hvn hvl=>?_|fail)
  all_goals (try cbv)
  (refine hQ _ ⟨?_,?_,?_,?_,?_⟩ <;> (try cbv) <;> (repeat' first|exact True.intro|exact rfl|assumption|exact lenU|exact frM|exact FrR.mk rfl|exact FrS.mk rfl|refine ⟨?_,?_⟩|(subst_vars; rfl)|fail))
theorem q_Copy (hP:P=Try.prog) (hF:F=fs) (s:SD) (hs:Fit s):CallsV P 38 [.agg (stS F s)] (.agg (stF F .o .r s)) [.undef] false:=by
 have:=q38y s hs
 rwa [stS_C hF,stF_R hF,<- hP] at this
theorem q_May (hP:P=Try.prog) (hF:F=fs) (s:SD) (hs:Fit s) (b:Bool) (hb:b=mayS s):CallsV P 36 [.agg (stS F s)] (.bool b) [.undef] true:=by
 have:=c36 s hs b hb
 rwa [stS_C hF,<- hP] at this
theorem nG (hF:F=fs) (s:SD):F.n s.gs=s.gs.length:=by rw [hF]; rfl
theorem nP (hF:F=fs) (s:SD):F.n s.ps=s.ps.length:=by rw [hF]; rfl
theorem nM (hF:F=fs) (s:SD):F.n s.ms=s.ms.length:=by rw [hF]; rfl
theorem nL (hF:F=fs) (s:SD):F.n s.gl=s.gl.length:=by rw [hF]; rfl
theorem gP (hF:F=fs) (s:SD) (p:Int):F.g s.ps p=getP s p:=by rw [hF]; rfl
theorem gG (hF:F=fs) (s:SD) (p:Int):F.g s.gs p=getG s p:=by rw [hF]; rfl
theorem gM (hF:F=fs) (s:SD) (p:Int):F.g s.ms p=getM s p:=by rw [hF]; rfl
set_option maxHeartbeats 4000000 in
theorem d16f (hP:P=Try.prog) (hF:F=fs) (s:SD) (hs:Fit s) (m:Int) (hb:yieldOk s m=false) :
  CallsV P 16 [.agg (stS F s),.int .i64 m] (.tup [zeroV,.int .i64 1]) [.undef,.undef] true:=by
 obtain ⟨k,hk⟩ : ∃ k,F.n s.ms=k:=⟨_,rfl⟩
 have hk':k=s.ms.length:=by rw [<- hk,nM hF]
 have hk6:k<=1000000:=by have:=hs.ms; omega
 have hms:=hs.ms
 unfold yieldOk at hb
 cases hm:mayS s with
 |false =>
  have k1:=q_May hP hF s hs _ hm.symm
  refine callsV_f hD Try.func16 ok16 hP hF (by simp only [List.map_cons,List.map_nil,V.sh,sh_F hF,sh_O hF,sh_F' hF,sh_S hF]) fun R hQ=>?_
  repeat' (cbv; first|refine .y ?_|refine .n ?_|refine .s (fun hc=>?_) fun hc=>?_|refine .z k1 ?_|refine .v ?_|refine .r ?_|refine .e fun v hv=>?_|refine .a fun v hv=>?_|refine .d ?_|refine .fa ?_|refine .f1 ?_|refine .u fun vr vn hvr hvn hvl=>?_|fail)
  all_goals (try cbv)
  (refine hQ _ ⟨?_,?_,?_,?_,?_⟩ <;> (try cbv) <;> (repeat' first|exact True.intro|exact rfl|assumption|exact lenU|exact frM|exact FrR.mk rfl|exact FrS.mk rfl|refine ⟨?_,?_⟩|(subst_vars; rfl)|fail))
 |true =>
  have k1:=q_May hP hF s hs _ hm.symm
  rw [hm,Bool.true_and] at hb
  by_cases hc:1<=m/\m<=k
  ·have k2:=c37 hP hF m k true (by simpa using hc)
   have hi:In F s.ms m:=⟨hc.1,by rw [hk]; exact hc.2⟩
   obtain ⟨y0,y1,hy,ey0,ey1⟩:=elM (F.g s.ms m)
   rw [gM hF] at ey0 ey1
   have hz:y0=0\/y1=0:=by
    rw [decide_eq_false_iff_not,<- ey0,<- ey1] at hb
    by_cases e:y0=0
    ·exact .inl e
    ·by_cases e':y1=0
     ·exact .inr e'
     ·exact absurd ⟨hc.1,by omega,e,e'⟩ hb
   clear hb ey0 ey1 hs hm
   refine callsV_f hD Try.func16 ok16 hP hF (by simp only [List.map_cons,List.map_nil,V.sh,sh_F hF,sh_O hF,sh_F' hF,sh_S hF]) fun R hQ=>?_
   repeat' (cbv; first|refine .y ?_|refine .n ?_|refine .s (fun hc=>?_) fun hc=>?_|refine .z k1 ?_|refine .z k2 ?_|refine .v ?_|refine .r ?_|refine .e fun v hv=>?_|refine .a fun v hv=>?_|refine .d ?_|refine .fa ?_|refine .f1 ?_|refine .u fun vr vn hvr hvn hvl=>?_|fail)
   all_goals (try cbv)
   all_goals first
    |(exfalso; omega)
    |(refine hQ _ ⟨?_,?_,?_,?_,?_⟩ <;> (try cbv) <;> (repeat' first|exact True.intro|exact rfl|assumption|exact lenU|exact frM|exact FrR.mk rfl|exact FrS.mk rfl|refine ⟨?_,?_⟩|(subst_vars; rfl)|fail))
  ·have k2:=c37 hP hF m k false (by simpa using hc)
   refine callsV_f hD Try.func16 ok16 hP hF (by simp only [List.map_cons,List.map_nil,V.sh,sh_F hF,sh_O hF,sh_F' hF,sh_S hF]) fun R hQ=>?_
   repeat' (cbv; first|refine .y ?_|refine .n ?_|refine .s (fun hc=>?_) fun hc=>?_|refine .z k1 ?_|refine .z k2 ?_|refine .v ?_|refine .r ?_|refine .e fun v hv=>?_|refine .a fun v hv=>?_|refine .d ?_|refine .fa ?_|refine .f1 ?_|refine .u fun vr vn hvr hvn hvl=>?_|fail)
   all_goals (try cbv)
   (refine hQ _ ⟨?_,?_,?_,?_,?_⟩ <;> (try cbv) <;> (repeat' first|exact True.intro|exact rfl|assumption|exact lenU|exact frM|exact FrR.mk rfl|exact FrS.mk rfl|refine ⟨?_,?_⟩|(subst_vars; rfl)|fail))
set_option maxHeartbeats 4000000 in
theorem d16t (hP:P=Try.prog) (hF:F=fs) (s t:SD) (hs:Fit s) (m:Int) (hb:yieldOk s m=true) (ht:t=yieldS s m) :
  CallsV P 16 [.agg (stS F s),.int .i64 m] (.tup [.agg (stF F .n .r t),.int .i64 0]) [.undef,.undef] false:=by
 obtain ⟨k,hk⟩ : ∃ k,F.n s.ms=k:=⟨_,rfl⟩
 have hk':k=s.ms.length:=by rw [<- hk,nM hF]
 have hk6:k<=1000000:=by have:=hs.ms; omega
 have hms:=hs.ms
 unfold yieldOk at hb
 simp only [Bool.and_eq_true,decide_eq_true_eq] at hb
 obtain ⟨hm,m1,m2,hp0,hg0⟩:=hb
 have ho:=(may_ok s).1 hm
 have k1:=q_May hP hF s hs _ hm.symm
 have k2:=c37 hP hF m k true (by simp; omega)
 have k3:=q_Copy hP hF s hs
 have hi:In F s.ms m:=⟨m1,by omega⟩
 obtain ⟨y0,y1,hy,ey0,ey1⟩:=elM (F.g s.ms m)
 have hy0:y0≠0:=by rw [ey0,gM hF]; exact hp0
 have hy1:y1≠0:=by rw [ey1,gM hF]; exact hg0
 have hmm:s.ms[m.toNat - 1]?=some ⟨y0,y1⟩:=by rw [getM_of (by omega),<- gM hF,hy]
 have hin:1<=y1/\y1<=s.gs.length:=by
  refine ho.inT y1 (List.mem_map.2 ⟨⟨y0,y1⟩,List.mem_filter.2 ⟨List.mem_of_getElem? hmm,?_⟩,rfl⟩)
  simp [hy0,hy1]
 have hgs:=hs.gs
 have hG:In F s.gs y1:=⟨hin.1,by rw [nG hF]; exact hin.2⟩
 obtain ⟨x0,x1,x2,x3,x4,hx,ex0,ex1,ex2,ex3,ex4⟩:=elG (F.g s.gs y1)
 have hsq:=ho.gs _ (List.mem_of_getElem? (getG_of (s:=s) (p:=y1) (by omega)))
 unfold okG at hsq
 simp only [Bool.and_eq_true,decide_eq_true_eq] at hsq
 rw [<- gG hF,<- ex4] at hsq
 have k4:=d40 hP hF true false s { s with gs:=F.u s.gs y1 ⟨x0,x1,1,0,x4+1⟩ } y1 1 0 hG (by rw [nG hF]; omega) (by rw [<- ex4]; omega) (by
  subst ex0 ex1 ex4; subst hF; rfl)
 obtain ⟨q,hq⟩ : ∃ q,q=x4+1:=⟨_,rfl⟩
 rw [<- hq] at k4
 have fl:Few F s.gl:=⟨by rw [nL hF]; have:=hs.gl; omega⟩
 have hm6:m<=1000000:=by omega
 have hy6:1<=y1/\y1<=1000000:=by omega
 clear hsq hin hmm hgs hms hs ho hm hp0 hg0 hk' m2
 refine callsV_f hD Try.func16 ok16 hP hF (by simp only [List.map_cons,List.map_nil,V.sh,sh_F hF,sh_O hF,sh_F' hF,sh_S hF]) fun R hQ=>?_
 repeat' (cbv; first|refine .y ?_|refine .n ?_|refine .s (fun hc=>?_) fun hc=>?_|refine .z k1 ?_|refine .z k2 ?_|refine .z k3 ?_|refine .z k4 ?_|refine .v ?_|refine .r ?_|refine .e fun v hv=>?_|refine .a fun v hv=>?_|refine .d ?_|refine .fa ?_|refine .f1 ?_|refine .u fun vr vn hvr hvn hvl=>?_|fail)
 all_goals (try cbv)
 (refine hQ _ ⟨?_,?_,?_,?_,?_⟩ <;> (try cbv) <;> (repeat' first|exact True.intro|exact rfl|assumption|exact lenU|exact frM|exact FrR.mk rfl|exact FrS.mk rfl|refine ⟨?_,?_⟩|(subst_vars; rfl)|fail))
theorem q_Queue (hP:P=Try.prog) (hF:F=fs) (s:SD) (hs:Fit s) (p:Int) (hm:mayS s=true) (h1:1<=p) (h2:p<=s.pr):CallsV P 47 [.agg (stS F s),.int .i64 p] (.sl true 1 (F.m iC (queueOf (F.g s.ps p)))) [.undef,.undef] true:=by
 have:=c47 s hs p
 unfold queueV at this
 rw [if_neg (by rw [hm]; simp; omega)] at this
 rw [stS_C hF,<- hP] at this
 subst hF
 exact this
set_option maxHeartbeats 4000000 in
theorem d18f (hP:P=Try.prog) (hF:F=fs) (s:SD) (hs:Fit s) (p:Int) (hb:drainOk s p=false) :
  CallsV P 18 [.agg (stS F s),.int .i64 p] (.tup [zeroV,.int .i64 1]) [.undef,.undef] true:=by
 unfold drainOk at hb
 have k1:=q_May hP hF s hs _ rfl
 cases hm:mayS s with
 |false =>
  rw [hm] at k1
  refine callsV_f hD Try.func18 ok18 hP hF (by simp only [List.map_cons,List.map_nil,V.sh,sh_F hF,sh_O hF,sh_F' hF,sh_S hF]) fun R hQ=>?_
  repeat' (cbv; first|refine .y ?_|refine .n ?_|refine .s (fun hc=>?_) fun hc=>?_|refine .z k1 ?_|refine .v ?_|refine .r ?_|refine .e fun v hv=>?_|refine .a fun v hv=>?_|refine .d ?_|refine .fa ?_|refine .f1 ?_|refine .u fun vr vn hvr hvn hvl=>?_|fail)
  all_goals (try cbv)
  (refine hQ _ ⟨?_,?_,?_,?_,?_⟩ <;> (try cbv) <;> (repeat' first|exact True.intro|exact rfl|assumption|exact lenU|exact frM|exact FrR.mk rfl|exact FrS.mk rfl|refine ⟨?_,?_⟩|(subst_vars; rfl)|fail))
 |true =>
  rw [hm] at k1
  rw [hm,Bool.true_and] at hb
  have k2:=c37 hP hF p s.pr false hb.symm
  refine callsV_f hD Try.func18 ok18 hP hF (by simp only [List.map_cons,List.map_nil,V.sh,sh_F hF,sh_O hF,sh_F' hF,sh_S hF]) fun R hQ=>?_
  repeat' (cbv; first|refine .y ?_|refine .n ?_|refine .s (fun hc=>?_) fun hc=>?_|refine .z k1 ?_|refine .z k2 ?_|refine .v ?_|refine .r ?_|refine .e fun v hv=>?_|refine .a fun v hv=>?_|refine .d ?_|refine .fa ?_|refine .f1 ?_|refine .u fun vr vn hvr hvn hvl=>?_|fail)
  all_goals (try cbv)
  (refine hQ _ ⟨?_,?_,?_,?_,?_⟩ <;> (try cbv) <;> (repeat' first|exact True.intro|exact rfl|assumption|exact lenU|exact frM|exact FrR.mk rfl|exact FrS.mk rfl|refine ⟨?_,?_⟩|(subst_vars; rfl)|fail))
set_option maxHeartbeats 4000000 in
theorem d18t (hP:P=Try.prog) (hF:F=fs) (s t:SD) (hs:Fit s) (p:Int) (hb:drainOk s p=true) (ht:t=drainS s p) :
  CallsV P 18 [.agg (stS F s),.int .i64 p] (.tup [.agg (stF F .n .r t),.int .i64 0]) [.undef,.undef] false:=by
 unfold drainOk at hb
 simp only [Bool.and_eq_true,decide_eq_true_eq] at hb
 obtain ⟨hm,p1,p2⟩:=hb
 have ho:=(may_ok s).1 hm
 have h8:=ho.p8
 have hpr:=ho.pr8
 have k1:=q_May hP hF s hs _ hm.symm
 have k2:=c37 hP hF p s.pr true (by simp; omega)
 have k3:=q_Copy hP hF s hs
 have k4:=q_Queue hP hF s hs p hm p1 p2
 have hi:In F s.ps p:=⟨p1,by rw [nP hF]; omega⟩
 obtain ⟨q,hq⟩ : ∃ q,q=queueOf (F.g s.ps p):=⟨_,rfl⟩
 rw [<- hq] at k4
 have fq:Few F q:=⟨by rw [hF]; show ((q.length:Nat):Int)<=_; have:=queueOf_len (F.g s.ps p); rw [<- hq] at this; omega⟩
 obtain ⟨x0,x1,x2,x3,hx,ex0,ex1,ex2,ex3⟩:=elP (F.g s.ps p)
 have hp8:p<=8:=by omega
 have fl:Few F s.gl:=⟨by rw [nL hF]; have:=hs.gl; omega⟩
 clear hs hm ho h8 hpr p2
 refine callsV_f hD Try.func18 ok18 hP hF (by simp only [List.map_cons,List.map_nil,V.sh,sh_F hF,sh_O hF,sh_F' hF,sh_S hF]) fun R hQ=>?_
 repeat' (cbv; first|refine .y ?_|refine .n ?_|refine .s (fun hc=>?_) fun hc=>?_|refine .z k1 ?_|refine .z k2 ?_|refine .z k3 ?_|refine .z k4 ?_|refine .v ?_|refine .r ?_|refine .e fun v hv=>?_|refine .a fun v hv=>?_|refine .d ?_|refine .fa ?_|refine .f1 ?_|refine .u fun vr vn hvr hvn hvl=>?_|fail)
 all_goals (try cbv)
 (refine hQ _ ⟨?_,?_,?_,?_,?_⟩ <;> (try cbv) <;> (repeat' first|exact True.intro|exact rfl|assumption|exact lenU|exact frM|exact FrR.mk rfl|exact FrS.mk rfl|refine ⟨?_,?_⟩|(subst_vars; rfl)|fail))
set_option maxHeartbeats 4000000 in
theorem d21 (hP:P=Try.prog) (hF:F=fs) (s t:SD) (hs:Fit s) (p g:Int) (ht:t=tailS s p g) :
  CallsV P 21 [.agg (stS F s),.int .i64 p,.int .i64 g] (.agg (stF F .o .r t)) [.undef,.undef,.undef] false:=by
 have k3:=q_Copy hP hF s hs
 obtain ⟨k,hk⟩ : ∃ k,F.n s.ps=k:=⟨_,rfl⟩
 have hk':k=s.ps.length:=by rw [<- hk,nP hF]
 have hk6:k<=1000000:=by have:=hs.ps; omega
 have hgl:F.n s.gl<=1000000:=by rw [nL hF]; have:=hs.gl; omega
 by_cases hc:1<=p/\p<=k/\1<=g
 ·obtain ⟨p1,p2,g1⟩:=hc
  have hi:In F s.ps p:=⟨p1,by rw [hk]; exact p2⟩
  obtain ⟨x0,x1,x2,x3,hx,ex0,ex1,ex2,ex3⟩:=elP (F.g s.ps p)
  have k1:=r_May x2 _ rfl
  rw [<- hP] at k1
  cases hr:mayR x2 with
  |true =>
   rw [hr] at k1
   have e:tailS s p g=layS s p g:=by
    unfold tailS
    rw [if_pos ⟨p1,by omega,g1,by rw [<- gP hF,<- ex2]; exact hr⟩]
   rw [e] at ht
   have k4:=d55 hP hF false s t p g hi (by rw [hk]; exact hk6) hgl g1 (by rw [<- ex2]; exact hr) ht
   clear hk' hs ht e
   refine callsV_f hD Try.func21 ok21 hP hF (by simp only [List.map_cons,List.map_nil,V.sh,sh_F hF,sh_O hF,sh_F' hF,sh_S hF]) fun R hQ=>?_
   repeat' (cbv; first|refine .y ?_|refine .n ?_|refine .s (fun hc=>?_) fun hc=>?_|refine .z k1 ?_|refine .z k3 ?_|refine .z k4 ?_|refine .v ?_|refine .r ?_|refine .e fun v hv=>?_|refine .a fun v hv=>?_|refine .d ?_|refine .fa ?_|refine .f1 ?_|refine .u fun vr vn hvr hvn hvl=>?_|fail)
   all_goals (try cbv)
   (refine hQ _ ⟨?_,?_,?_,?_,?_⟩ <;> (try cbv) <;> (repeat' first|exact True.intro|exact rfl|assumption|exact lenU|exact frM|exact FrR.mk rfl|exact FrS.mk rfl|refine ⟨?_,?_⟩|(subst_vars; rfl)|fail))
  |false =>
   rw [hr] at k1
   have e:tailS s p g=s:=by
    unfold tailS
    rw [if_neg fun h=>?_]
    have:=h.2.2.2
    rw [<- gP hF,<- ex2,hr] at this
    cases this
   rw [e] at ht
   subst ht
   clear hk' hs e
   refine callsV_f hD Try.func21 ok21 hP hF (by simp only [List.map_cons,List.map_nil,V.sh,sh_F hF,sh_O hF,sh_F' hF,sh_S hF]) fun R hQ=>?_
   repeat' (cbv; first|refine .y ?_|refine .n ?_|refine .s (fun hc=>?_) fun hc=>?_|refine .z k1 ?_|refine .z k3 ?_|refine .v ?_|refine .r ?_|refine .e fun v hv=>?_|refine .a fun v hv=>?_|refine .d ?_|refine .fa ?_|refine .f1 ?_|refine .u fun vr vn hvr hvn hvl=>?_|fail)
   all_goals (try cbv)
   (refine hQ _ ⟨?_,?_,?_,?_,?_⟩ <;> (try cbv) <;> (repeat' first|exact True.intro|exact rfl|assumption|exact lenU|exact frM|exact FrR.mk rfl|exact FrS.mk rfl|refine ⟨?_,?_⟩|(subst_vars; rfl)|fail))
 ·have e:tailS s p g=s:=by
   unfold tailS
   rw [if_neg fun h=>hc ⟨h.1,by omega,h.2.2.1⟩]
  rw [e] at ht
  subst ht
  have hc':p < 1\/k < p\/g < 1:=by omega
  clear hk' hs e hc
  refine callsV_f hD Try.func21 ok21 hP hF (by simp only [List.map_cons,List.map_nil,V.sh,sh_F hF,sh_O hF,sh_F' hF,sh_S hF]) fun R hQ=>?_
  repeat' (cbv; first|refine .y ?_|refine .n ?_|refine .s (fun hc=>?_) fun hc=>?_|refine .z k3 ?_|refine .v ?_|refine .r ?_|refine .e fun v hv=>?_|refine .a fun v hv=>?_|refine .d ?_|refine .fa ?_|refine .f1 ?_|refine .u fun vr vn hvr hvn hvl=>?_|fail)
  all_goals (try cbv)
  all_goals first
   |(exfalso; omega)
   |(refine hQ _ ⟨?_,?_,?_,?_,?_⟩ <;> (try cbv) <;> (repeat' first|exact True.intro|exact rfl|assumption|exact lenU|exact frM|exact FrR.mk rfl|exact FrS.mk rfl|refine ⟨?_,?_⟩|(subst_vars; rfl)|fail))
end Go.Ab
