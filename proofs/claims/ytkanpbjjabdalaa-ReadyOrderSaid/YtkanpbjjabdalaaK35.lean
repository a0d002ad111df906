/-
  The text of a law.
  law13: ReadyOrder.
-/
import Derived.Test.YtkanpbjjabdalaaK9
import Derived.Test.YtkanpbjjabdalaaK34
set_option linter.all false
namespace Go.Ab
open Go Go.Proofs T
set_option maxRecDepth 1000000
def t5:FnT:=⟨3,[],[],[.t 6],S [g [1,2,3] [100] [100] [p 3 (.box (.t 0) 100),p 6 (B false)],S [g [1,2,3,25] [100] [] [p 14 (.call 13 [] []),p 15 (v 14),p 16 (m 15),q 17 (L 16 3) 16,q 18 (.call 12 [r 17] []) 16,q 19 (v 18) 16,p 20 (o 16 19),p 21 (m 20),q 22 (L 16 3) 21,q 23 (.call 23 [r 22] []) 21,q 24 (v 23) 21,p 25 (o 21 24)],.cond (.t 25) (S [g [6] [] [] [p 26 (.call 13 [] []),p 6 (m 26)],.ret]) (.skip)],g [1,2,3,7,8] [100,101] [101] [p 28 (L 16 3),p 29 (m 1),p 30 (m 2),p 31 (.call 14 [r 28,r 29,r 30] []),p 27 (m 31),p 32 (e 0 27),p 33 (e 1 27),p 7 (.alloc [.nils 1,.nils 5,.nils 13,.nils 2,.nils 1,Z,Z,Z,Z,.nils 1,.nils 1,.nils 1,.nils 1,.nils 2,Z,Z] 101 []),u (s 16 7 32),p 8 (m 33)],S [.fgt false [1,2,3,71] [100] (.regd [] [(p 34 (m 8),0),(p 35 (c .eql 34 0),0),(p 36 (m 35),0),(w 37 (f 2 7) 36,0),(w 38 (l 37) 36,1),(w 39 (h 38) 36,0),(w 40 (m 1) 36,0),(w 41 (b .lss 39 40) 36,0),(w 42 (m 41) 36,0),(q 43 (f 2 7) 42,0),(q 44 (l 43) 42,1),(q 45 (m 1) 42,0),(q 46 (c .sub 45 1) 42,0),(q 47 (x 13 44 46) 42,1),(q 48 (f 1 47) 42,0),(q 49 (l 48) 42,1),(q 50 (m 2) 42,0),(q 51 (b .neq 49 50) 42,0),(w 52 (o 42 51) 36,0),(w 53 (m 52) 36,0),(q 54 (f 1 7) 53,0),(q 55 (l 54) 53,1),(q 56 (m 2) 53,0),(q 57 (c .sub 56 1) 53,0),(q 58 (x 5 55 57) 53,1),(q 59 (f 4 58) 53,0),(q 60 (l 59) 53,1),(q 61 (f 1 3) 53,0),(q 62 (l 61) 53,1),(q 63 (m 2) 53,0),(q 64 (c .sub 63 1) 53,0),(q 65 (x 5 62 64) 53,1),(q 66 (f 4 65) 53,0),(q 67 (l 66) 53,1),(q 68 (c .add 67 1) 53,0),(q 69 (b .neq 60 68) 53,0),(w 70 (o 53 69) 36,0),(p 71 (n 36 70),0)]),.cond (.t 71) (S [g [6] [] [] [p 6 (B false)],.ret]) (.skip)],g [1,2,3,9,10] [100,112] [112] [p 73 (L 16 3),p 74 (m 2),p 75 (.call 16 [r 73,r 74] []),p 72 (m 75),p 76 (e 0 72),p 77 (e 1 72),p 9 (.alloc [.nils 1,.nils 5,.nils 13,.nils 2,.nils 1,Z,Z,Z,Z,.nils 1,.nils 1,.nils 1,.nils 1,.nils 2,Z,Z] 112 []),u (s 16 9 76),p 10 (m 77)],S [g [1,2,3,9,79] [100,112] [] [p 78 (m 10),p 79 (c .eql 78 0)],.cond (.t 79) (S [g [1,2,3,9,11] [100,112] [] [p 80 (f 3 3),p 81 (l 80),p 82 (m 2),p 83 (c .sub 82 1),p 84 (x 2 81 83),p 85 (f 1 84),p 86 (l 85),p 11 (m 86)],.fgt false [1,3,132] [100] (.regd [] [(p 87 (f 4 9),0),(p 88 (l 87),1),(p 89 (h 88),0),(p 90 (f 4 3),0),(p 91 (l 90),1),(p 92 (h 91),0),(p 93 (c .add 92 1),0),(p 94 (b .neq 89 93),0),(p 95 (m 94),0),(q 96 (f 4 9) 95,0),(q 97 (l 96) 95,1),(q 98 (f 4 3) 95,0),(q 99 (l 98) 95,1),(q 100 (h 99) 95,0),(q 101 (x 1 97 100) 95,1),(q 102 (l 101) 95,1),(q 103 (m 11) 95,0),(q 104 (b .neq 102 103) 95,0),(p 105 (o 95 104),0),(p 106 (m 105),0),(q 107 (f 3 9) 106,0),(q 108 (l 107) 106,1),(q 109 (m 2) 106,0),(q 110 (c .sub 109 1) 106,0),(q 111 (x 2 108 110) 106,1),(q 112 (f 1 111) 106,0),(q 113 (l 112) 106,1),(q 114 (c .neq 113 0) 106,0),(p 115 (o 106 114),0),(p 116 (m 115),0),(q 117 (f 3 9) 116,0),(q 118 (l 117) 116,1),(q 119 (m 2) 116,0),(q 120 (c .sub 119 1) 116,0),(q 121 (x 2 118 120) 116,1),(q 122 (f 0 121) 116,0),(q 123 (l 122) 116,1),(q 124 (f 3 3) 116,0),(q 125 (l 124) 116,1),(q 126 (m 2) 116,0),(q 127 (c .sub 126 1) 116,0),(q 128 (x 2 125 127) 116,1),(q 129 (f 0 128) 116,0),(q 130 (l 129) 116,1),(q 131 (b .neq 123 130) 116,0),(p 132 (o 116 131),0)]),.cond (.t 132) (S [g [6] [] [] [p 6 (B false)],.ret]) (.skip)]) (.skip)],g [1,3,12,13] [100,123] [123] [p 134 (L 16 3),p 135 (m 1),p 136 (.call 18 [r 134,r 135] []),p 133 (m 136),p 137 (e 0 133),p 138 (e 1 133),p 12 (.alloc [.nils 1,.nils 5,.nils 13,.nils 2,.nils 1,Z,Z,Z,Z,.nils 1,.nils 1,.nils 1,.nils 1,.nils 2,Z,Z] 123 []),u (s 16 12 137),p 13 (m 138)],S [g [1,3,12,140] [100,123] [] [p 139 (m 13),p 140 (c .neq 139 0)],.cond (.t 140) (S [g [6] [] [] [p 6 (B true)],.ret]) (.skip)],.fgt false [6] [] (.regd [134] [(p 141 (L 16 12),1),(p 142 (m 1),0),(p 143 (.call 25 [r 141,r 142] []),1),(p 144 (h 143),0),(p 145 (c .eql 144 0),0),(p 146 (m 145),0),(w 147 (f 4 12) 146,4),(w 148 (l 147) 146,4),(w 149 (.bsl 1 [] none) 146,1),(w 150 (f 4 3) 146,0),(w 151 (l 150) 146,1),(w 152 (.app 1 8 (.t 149) (.t 151) (some 134)) 146,1),(w 153 (L 16 3) 146,1),(w 154 (m 1) 146,0),(w 155 (.call 25 [r 153,r 154] []) 146,1),(w 156 (.app 1 8 (.t 152) (.t 155) (some 134)) 146,3),(w 157 (.call 26 [r 148,r 156] []) 146,1),(p 158 (n 146 157),0),(p 6 (m 158),0)]),.ret]⟩
theorem ok5:okFn Try.prog Try.f5 t5=true:=by kernel_rfl
end Go.Ab

namespace Go.Ab
open Go Go.Proofs
set_option maxRecDepth 100000
variable {P:Program} {F:Fs}
theorem ord_wake (hP:P=Try.prog) (hF:F=fs) (s:SD) (fs:Fit s) (hb:smallS s=true) (p n:Int):(CallsV P 14 [.agg (stS F s),.int .i64 p,.int .i64 n] (.tup [zeroV,.int .i64 1]) [.undef,.undef,.undef] true) \/
  ∃
   t x0 x1 x2 x3 x4 y0 y2 y3 q,CallsV P 14 [.agg (stS F s),.int .i64 p,.int .i64 n] (.tup [.agg (stF F .o .o t),.int .i64 0]) [.undef,.undef,.undef] false/\F.n t.ps=8/\(1<=p/\p<=8/\1<=n/\n<=1000000)/\F.g t.ps p=⟨y0,n,y2,y3⟩/\In F t.ps p /\
   F.g s.gs n=⟨x0,x1,x2,x3,x4⟩/\In F s.gs n/\F.g t.gs n=⟨x0,x1,1,0,q⟩/\In F t.gs n/\q=x4+1/\(0<=x4/\x4<=1000000):=by
 cases hw:wakeOk s p n with
 |false=>exact .inl (d14f hP hF s fs p n hw)
 |true =>
  have kw:=d14t hP hF s _ fs p n hw rfl
  unfold wakeOk at hw
  simp only [Bool.and_eq_true,decide_eq_true_eq] at hw
  obtain ⟨hm,p1,p2,g1,g2,h3⟩:=hw
  have ho:=(may_ok s).1 hm
  have h8:=ho.p8
  have hpr:=ho.pr8
  have hG:=getG_of (s:=s) (p:=n) (by omega)
  have hsq:=sq_of hb _ (List.mem_of_getElem? hG)
  have hok:=ho.gs _ (List.mem_of_getElem? hG)
  unfold okG at hok
  simp only [Bool.and_eq_true,decide_eq_true_eq] at hok
  obtain ⟨hot,r,gl,hN⟩:=wake_ok ho p1 p2 g1 g2 h3 hsq
  have heq:=hN.eq
  have hgs:=fs.gs
  have e1:getP (wakeS s p n) p={ getP s p with nx:=n,r:=r }:=by
   rw [heq]; exact (getP_set (s:=s) p1 (by omega) p1).trans (if_pos rfl)
  have e2:getG (wakeS s p n) n={ getG s n with st:=1,m:=0,sq:=(getG s n).sq+1 }:=by
   rw [heq]; exact (getG_set (s:=outS s n) g1 g2 g1).trans (if_pos rfl)
  have l1:(wakeS s p n).ps.length=8:=by rw [heq]; simp [setP,turnS,setG,outS,h8]
  have l2:(wakeS s p n).gs.length=s.gs.length:=by rw [heq]; simp [setP,turnS,setG,outS]
  refine .inr ⟨_,(getG s n).fn,(getG s n).pc,(getG s n).st,(getG s n).m,(getG s n).sq,(getP s p).m,r,(getP s p).sq,(getG s n).sq+1,kw,by rw [nP hF,l1]; rfl,⟨p1,by omega,g1,by omega⟩,by rw [gP hF,e1],⟨p1,by rw [nP hF,l1]; show p<=8; omega⟩,
   by rw [gG hF],⟨g1,by rw [nG hF]; omega⟩,by rw [gG hF,e2],⟨g1,by rw [nG hF,l2]; omega⟩,rfl,by omega⟩
theorem ord_yield (hP:P=Try.prog) (hF:F=fs) (s:SD) (fs:Fit s) (n:Int):(CallsV P 16 [.agg (stS F s),.int .i64 n] (.tup [zeroV,.int .i64 1]) [.undef,.undef] true) \/
  ∃ t v0 v1 k k',CallsV P 16 [.agg (stS F s),.int .i64 n] (.tup [.agg (stF F .n .r t),.int .i64 0]) [.undef,.undef] false/\(1<=n/\n<=1000000)/\F.g s.ms n=⟨v0,v1⟩/\In F s.ms n/\F.g t.ms n=⟨v0,0⟩/\In F t.ms n/\F.n s.gl=k/\(0<=k/\k<=1000000)/\F.n t.gl=k'/\k'=k+1/\t.gl[k.toNat]?=some v1:=by
 cases hw:yieldOk s n with
 |false=>exact .inl (d16f hP hF s fs n hw)
 |true =>
  have kw:=d16t hP hF s _ fs n hw rfl
  have hY:=yield_of hw
  have m1:=hY.m1
  have m2:=hY.m2
  have e:=yield_eq hY
  have hms:=fs.ms
  have hgl:=fs.gl
  have e1:getM (yieldS s n) n=⟨(getM s n).p,0⟩:=by rw [e]; exact (getM_set (s:=turnS s (getM s n).g 1 0) m1 m2 m1).trans (if_pos rfl)
  have e2:(yieldS s n).gl=s.gl ++ [(getM s n).g]:=by rw [e]
  have l1:(yieldS s n).ms.length=s.ms.length:=by rw [e]; simp [setM,turnS,setG]
  refine .inr ⟨_,(getM s n).p,(getM s n).g,s.gl.length,s.gl.length+1,kw,⟨m1,by omega⟩,by rw [gM hF],⟨m1,by rw [nM hF]; omega⟩,by rw [gM hF,e1],⟨m1,by rw [nM hF,l1]; omega⟩,nL hF s,by omega,by rw [nL hF,e2]; simp,rfl,?_⟩
  rw [e2]; simp
theorem ord_drain (hP:P=Try.prog) (hF:F=fs) (s:SD) (fs:Fit s) (hm:mayS s=true) (p:Int):(CallsV P 18 [.agg (stS F s),.int .i64 p] (.tup [zeroV,.int .i64 1]) [.undef,.undef] true) \/
  ∃
   t q q0,CallsV P 18 [.agg (stS F s),.int .i64 p] (.tup [.agg (stF F .n .r t),.int .i64 0]) [.undef,.undef] false/\CallsV P 25 [.agg (stS F s),.int .i64 p] (.sl true 1 (F.m iC q)) [.undef,.undef] true /\
   CallsV P 25 [.agg (stS F t),.int .i64 p] (.sl true 1 (F.m iC q0)) [.undef,.undef] true/\F.n q0=0/\Few F s.gl/\Few F q/\CallsV P 26 [.sl false 1 (F.m iC t.gl),.sl false 1 (F.m iC (F.a s.gl q))] (.bool true) [.undef,.undef] true:=by
 cases hw:drainOk s p with
 |false=>exact .inl (d18f hP hF s fs p hw)
 |true =>
  have kw:=d18t hP hF s _ fs p hw rfl
  unfold drainOk at hw
  simp only [Bool.and_eq_true,decide_eq_true_eq] at hw
  obtain ⟨-,p1,p2⟩:=hw
  have ho:=(may_ok s).1 hm
  have h8:=ho.p8
  have hpr:=ho.pr8
  have hd:=drain_ok ho p1 p2
  have hfd:=drain_fit fs hm p1 p2
  have e0:queueOf (getP (drainS s p) p)=[]:=by
   have:getP (drainS s p) p={ getP s p with nx:=0,r:=zeroR }:=(getP_set (s:=s) p1 (by omega) p1).trans (if_pos rfl)
   rw [this,drain_queue]
  have hql:=queueOf_len (getP s p)
  refine .inr ⟨_,queueOf (getP s p),[],kw,q_rQueue hP hF s fs p hm p1 p2 _ rfl,q_rQueue hP hF _ hfd p ((may_ok _).2 hd) p1 p2 _ e0.symm,by rw [hF]; rfl,⟨by rw [nL hF]; have:=fs.gl; omega⟩,⟨by rw [hF]; show (((queueOf (getP s p)).length:Nat):Int)<=_; omega⟩,?_⟩
  refine q_Ints hP hF _ _ (by have:=hfd.gl; omega) true ⟨fun _=>?_,fun _=>rfl⟩
  rw [hF]; rfl
set_option maxHeartbeats 16000000 in
theorem d5 (hP:P=Try.prog) (hF:F=fs) (s:SD) (hs:Held s) (p n:Int):CallsV P 5 [.agg (stS F s),.int .i64 p,.int .i64 n] (.bool true) [.undef,.undef,.undef] true:=by
 have kf:=d13 hP hF
 have k1:=q_Small hP hF s hs _ rfl
 cases hb:smallS s with
 |false =>
  rw [hb] at k1
  refine callsV_f hD Try.func5 ok5 hP hF (by simp only [List.map_cons,List.map_nil,V.sh,sh_F hF,sh_O hF,sh_F' hF,sh_S hF]) fun R hQ=>?_
  repeat' (cbv; first|refine .y ?_|refine .n ?_|refine .s (fun hc=>?_) fun hc=>?_|refine .z kf ?_|refine .z k1 ?_|refine .v ?_|refine .r ?_|refine .e fun v hv=>?_|refine .a fun v hv=>?_|refine .d ?_|refine .fa ?_|refine .f1 ?_|refine .u fun vr vn hvr hvn hvl=>?_|fail)
  all_goals (try cbv)
  (refine hQ _ ⟨?_,?_,?_,?_,?_⟩ <;> (try cbv) <;> (repeat' first|exact True.intro|exact rfl|assumption|exact lenU|exact frM|exact FrR.mk rfl|exact FrS.mk rfl|refine ⟨?_,?_⟩|(subst_vars; rfl)|fail))
 |true =>
 rw [hb] at k1
 have fs:=fit_small hb
 have k2:=q_rMay hP hF s fs _ rfl
 cases hm:mayS s with
 |false =>
  rw [hm] at k2
  refine callsV_f hD Try.func5 ok5 hP hF (by simp only [List.map_cons,List.map_nil,V.sh,sh_F hF,sh_O hF,sh_F' hF,sh_S hF]) fun R hQ=>?_
  repeat' (cbv; first|refine .y ?_|refine .n ?_|refine .s (fun hc=>?_) fun hc=>?_|refine .z kf ?_|refine .z k1 ?_|refine .z k2 ?_|refine .v ?_|refine .r ?_|refine .e fun v hv=>?_|refine .a fun v hv=>?_|refine .d ?_|refine .fa ?_|refine .f1 ?_|refine .u fun vr vn hvr hvn hvl=>?_|fail)
  all_goals (try cbv)
  (refine hQ _ ⟨?_,?_,?_,?_,?_⟩ <;> (try cbv) <;> (repeat' first|exact True.intro|exact rfl|assumption|exact lenU|exact frM|exact FrR.mk rfl|exact FrS.mk rfl|refine ⟨?_,?_⟩|(subst_vars; rfl)|fail))
 |true =>
 rw [hm] at k2
 have hW:=ord_wake hP hF s fs hb p n
 have hY:=ord_yield hP hF s fs n
 have hD:=ord_drain hP hF s fs hm p
 clear hb hm fs hs
 rcases hW with kw|⟨ta,x0,x1,x2,x3,x4,y0,y2,y3,q,kw,na,hp,hy,iy,hx,ix,hz,iz,hq,hx4⟩
 all_goals
  rcases hY with ky|⟨tb,v0,v1,k,k',ky,hn,hv,iv,hv',iv',hk,hk0,hk',hkk,hgl⟩
 all_goals
  rcases hD with kd|⟨tc,qs,q0,kd,kq,kq0,hq0,fl,fq,ki⟩
 all_goals
  refine callsV_f hD Try.func5 ok5 hP hF (by simp only [List.map_cons,List.map_nil,V.sh,sh_F hF,sh_O hF,sh_F' hF,sh_S hF]) fun R hQ=>?_
  repeat' (cbv; first|refine .y ?_|refine .n ?_|refine .s (fun hc=>?_) fun hc=>?_|refine .z kf ?_|refine .z k1 ?_|refine .z k2 ?_|refine .z kw ?_|refine .z ky ?_|refine .z kd ?_|refine .z kq ?_|refine .z kq0 ?_|refine .z ki ?_|refine AppL.f0 ?_|refine .v ?_|refine .r ?_|refine .e fun v hv=>?_|refine .a fun v hv=>?_|refine .d ?_|refine .fa ?_|refine .f1 ?_|refine .u fun vr vn hvr hvn hvl=>?_|fail)
  all_goals (try cbv)
  all_goals first
   |(exfalso; omega)
   |(refine hQ _ ⟨?_,?_,?_,?_,?_⟩ <;> (try cbv) <;> (repeat' first|exact True.intro|exact rfl|assumption|exact lenU|exact frM|exact FrR.mk rfl|exact FrS.mk rfl|refine ⟨?_,?_⟩|(subst_vars; rfl)|fail))
end Go.Ab
