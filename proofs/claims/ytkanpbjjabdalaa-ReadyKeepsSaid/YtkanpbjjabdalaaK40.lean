/-
  The text of a law.
  law13: ReadyKeeps.
-/
import Derived.Test.YtkanpbjjabdalaaK8
import Derived.Test.YtkanpbjjabdalaaK9
import Derived.Test.YtkanpbjjabdalaaK34
set_option linter.all false
namespace Go.Ab
open Go Go.Proofs T
set_option maxRecDepth 1000000
def t4:FnT:=⟨3,[],[],[.t 6],S [g [1,2,3] [100] [100] [p 3 (.box (.t 0) 100),p 6 (B false)],S [g [1,2,3,30] [100] [] [p 19 (.call 13 [] []),p 20 (v 19),p 21 (m 20),q 22 (L 16 3) 21,q 23 (.call 12 [r 22] []) 21,q 24 (v 23) 21,p 25 (o 21 24),p 26 (m 25),q 27 (L 16 3) 26,q 28 (.call 23 [r 27] []) 26,q 29 (v 28) 26,p 30 (o 26 29)],.cond (.t 30) (S [g [6] [] [] [p 31 (.call 13 [] []),p 6 (m 31)],.ret]) (.skip)],g [1,2,3,7,8] [100,101] [101] [p 33 (L 16 3),p 34 (m 1),p 35 (m 2),p 36 (.call 14 [r 33,r 34,r 35] []),p 32 (m 36),p 37 (e 0 32),p 38 (e 1 32),p 7 (.alloc [.nils 1,.nils 5,.nils 13,.nils 2,.nils 1,Z,Z,Z,Z,.nils 1,.nils 1,.nils 1,.nils 1,.nils 2,Z,Z] 101 []),u (s 16 7 37),p 8 (m 38)],g [1,3,7,8,9,10] [100,101,112] [112] [p 40 (L 16 3),p 41 (m 2),p 42 (.call 16 [r 40,r 41] []),p 39 (m 42),p 43 (e 0 39),p 44 (e 1 39),p 9 (.alloc [.nils 1,.nils 5,.nils 13,.nils 2,.nils 1,Z,Z,Z,Z,.nils 1,.nils 1,.nils 1,.nils 1,.nils 2,Z,Z] 112 []),u (s 16 9 43),p 10 (m 44)],g [3,7,8,9,10,11,12] [100,101,112,123] [123] [p 46 (L 16 3),p 47 (m 1),p 48 (.call 18 [r 46,r 47] []),p 45 (m 48),p 49 (e 0 45),p 50 (e 1 45),p 11 (.alloc [.nils 1,.nils 5,.nils 13,.nils 2,.nils 1,Z,Z,Z,Z,.nils 1,.nils 1,.nils 1,.nils 1,.nils 2,Z,Z] 123 []),u (s 16 11 49),p 12 (m 50)],S [g [3,7,8,9,10,11,12,13] [100,101,112,123] [] [p 13 (M 0)],.blk 0 (.loop [3,7,8,9,10,11,12,13] [100,101,112,123] (S [S [g [3,7,8,9,10,11,12,13,52] [100,101,112,123] [] [p 51 (m 13),p 52 (c .lss 51 3)],.cond (.t 52) (.skip) (.exit 0)],.blk 1 (S [g [3,7,8,9,10,11,12,13,14] [100,101,112,123,134] [134] [p 55 (L 16 7),p 56 (L 16 9),p 57 (L 16 11),p 58 (.bsl 16 [(.t 55),(.t 56),(.t 57)] none),p 59 (m 13),p 60 (x 16 58 59),p 61 (L 16 60),p 14 (.alloc [.nils 1,.nils 5,.nils 13,.nils 2,.nils 1,Z,Z,Z,Z,.nils 1,.nils 1,.nils 1,.nils 1,.nils 2,Z,Z] 134 []),u (s 16 14 61)],g [3,7,8,9,10,11,12,13,14,15] [100,101,112,123,134] [] [p 62 (m 8),p 63 (m 10),p 64 (m 12),p 65 (.bsl 1 [(.t 62),(.t 63),(.t 64)] none),p 66 (m 13),p 67 (x 1 65 66),p 68 (l 67),p 15 (m 68)],S [g [3,7,8,9,10,11,12,13,14,15,70] [100,101,112,123,134] [] [p 69 (m 15),p 70 (c .neq 69 0)],.cond (.t 70) (S [S [g [3,7,8,9,10,11,12,13,72] [100,101,112,123] [] [p 71 (m 15),p 72 (c .neq 71 1)],.cond (.t 72) (S [g [6] [] [] [p 6 (B false)],.ret]) (.skip)],.exit 1]) (.skip)],S [g [3,7,8,9,10,11,12,13,14,84] [100,101,112,123,134] [] [p 73 (L 16 14),p 74 (.call 23 [r 73] []),p 75 (v 74),p 76 (m 75),q 77 (f 1 14) 76,q 78 (l 77) 76,q 79 (h 78) 76,q 80 (f 1 3) 76,q 81 (l 80) 76,q 82 (h 81) 76,q 83 (b .neq 79 82) 76,p 84 (o 76 83)],.cond (.t 84) (S [g [6] [] [] [p 6 (B false)],.ret]) (.skip)],g [3,7,8,9,10,11,12,13,14,16] [100,101,112,123,134] [] [p 16 (M 1)],.blk 2 (.loop [3,7,8,9,10,11,12,13,14,16] [100,101,112,123,134] (S [S [g [3,7,8,9,10,11,12,13,14,16,89] [100,101,112,123,134] [] [p 85 (m 16),p 86 (f 1 3),p 87 (l 86),p 88 (h 87),p 89 (b .leq 85 88)],.cond (.t 89) (.skip) (.exit 2)],.blk 3 (S [.fgt false [3,7,8,9,10,11,12,13,14,16,17,18] [100,101,112,123,134,145,146] (.regd [145,146] [(p 92 (L 16 3),1),(p 93 (m 16),0),(p 94 (.call 24 [r 92,r 93] []),1),(p 95 (L 16 14),1),(p 96 (m 16),0),(p 97 (.call 24 [r 95,r 96] []),1),(p 17 (.alloc [Z,Z] 145 []),1),(p 18 (.alloc [Z,Z] 146 []),1),(u (s 2 17 94),2),(u (s 2 18 97),2)]),.fgt false [3,7,8,9,10,11,12,13,14,16,144] [100,101,112,123,134] (.regd [] [(p 98 (f 1 3),0),(p 99 (l 98),1),(p 100 (m 16),0),(p 101 (c .sub 100 1),0),(p 102 (x 5 99 101),1),(p 103 (f 2 102),0),(p 104 (l 103),1),(p 105 (f 1 14),0),(p 106 (l 105),1),(p 107 (m 16),0),(p 108 (c .sub 107 1),0),(p 109 (x 5 106 108),1),(p 110 (f 2 109),0),(p 111 (l 110),1),(p 112 (b .eql 104 111),0),(p 113 (m 112),0),(w 114 (L 2 17) 113,1),(w 115 (L 2 18) 113,1),(w 116 (.eqa true [0,0] (.t 114) (.t 115)) 113,0),(p 117 (n 113 116),0),(p 118 (m 117),0),(w 119 (f 0 17) 118,0),(w 120 (l 119) 118,1),(w 121 (c .eql 120 2) 118,0),(w 122 (m 121) 118,0),(w 123 (f 0 18) 122,0),(w 124 (l 123) 122,1),(w 125 (c .eql 124 3) 122,0),(w 126 (n 122 125) 118,0),(w 127 (v 126) 118,0),(p 128 (n 118 127),0),(p 129 (m 128),0),(w 130 (f 0 17) 129,0),(w 131 (l 130) 129,1),(w 132 (c .eql 131 1) 129,0),(w 133 (m 132) 129,0),(w 134 (f 0 18) 133,0),(w 135 (l 134) 133,1),(w 136 (c .eql 135 2) 133,0),(w 137 (m 136) 133,0),(q 138 (f 0 18) 137,0),(q 139 (l 138) 137,1),(q 140 (c .eql 139 3) 137,0),(w 141 (o 137 140) 133,0),(w 142 (n 133 141) 129,0),(w 143 (v 142) 129,0),(p 144 (n 129 143),0)]),.cond (.t 144) (S [g [6] [] [] [p 6 (B false)],.ret]) (.skip)]),g [3,7,8,9,10,11,12,13,14,16] [100,101,112,123,134] [] [p 90 (m 16),p 91 (c .add 90 1),p 16 (m 91)]]))]),g [3,7,8,9,10,11,12,13] [100,101,112,123] [] [p 53 (m 13),p 54 (c .add 53 1),p 13 (m 54)]]))],g [6] [] [] [p 6 (B true)],.ret]⟩
theorem ok4:okFn Try.prog Try.f4 t4=true:=by kernel_rfl
end Go.Ab

namespace Go.Ab
open Go Go.Proofs
set_option maxRecDepth 100000
variable {P:Program} {F:Fs}
structure Kept (P:Program) (F:Fs) (s t:SD) (k:Int):Prop where
 may:CallsV P 23 [.agg (stS F t)] (.bool true) [.undef] true
 len:F.n t.gs=k
 at':∀ x:Int,1<=x->x<=k->∃ a0 a1 a2 a3 a4 b0 b1 b2 b3 b4 u0 u1 w0 w1:Int,F.g s.gs x=⟨a0,a1,a2,a3,a4⟩/\In F s.gs x/\F.g t.gs x=⟨b0,b1,b2,b3,b4⟩/\In F t.gs x /\
  CallsV P 24 [.agg (stS F s),.int .i64 x] (.agg [.int .i64 u0,.int .i64 u1]) [.undef,.undef] true/\CallsV P 24 [.agg (stS F t),.int .i64 x] (.agg [.int .i64 w0,.int .i64 w1]) [.undef,.undef] true /\
  (a2=b2->(u0=w0/\u1=w1)\/(u0=2/\w0=3)\/(u0=1/\(w0=2\/w0=3)))
theorem fit_ok {s t:SD} (hs:Fit s) (hm:mayS t=true) (e:t.prog=s.prog) (h0:t.w0.length<=s.w0.length) (h1:t.w1.length<=s.w1.length) (h2:t.w2.length<=s.w2.length) (h3:t.w3.length<=s.w3.length) (h4:t.ts.length<=s.ts.length):Fit t:=by
 have ho:=(may_ok _).1 hm
 have a0:=hs.w0
 have a1:=hs.w1
 have a2:=hs.w2
 have a3:=hs.w3
 have a4:=hs.ts
 refine ⟨by rw [e]; exact hs.prog,by rw [e]; exact hs.code,by have:=ho.g2; omega,by have:=ho.p8; omega,by have:=ho.ms; omega,?_,by omega,by omega,by omega,by omega,by omega⟩
 have hr:=run_many hm
 have q1:=List.countP_le_length (p:=fun x:GD=>decide (x.st=1)) (l:=t.gs)
 have q2:=ho.g2
 have q3:t.gl.length<=(runnables t).length:=by unfold runnables; rw [List.length_append]; omega
 omega
theorem kept_of (hP:P=Try.prog) (hF:F=fs) {s t:SD} {k:Int} (fs:Fit s) (ft:Fit t) (ht:mayS t=true) (hk:F.n s.gs=k) (hl:t.gs.length=s.gs.length) (hmv:∀ n:Int,1<=n->n<=s.gs.length->(getG s n).st=(getG t n).st->Moved (placeS s n) (placeS t n)):Kept P F s t k:=by
 have ek:k=s.gs.length:=by rw [<- hk,nG hF]
 refine ⟨q_rMay hP hF t ft true ht.symm,by rw [nG hF,hl,ek],fun x x1 x2=>?_⟩
 refine ⟨_,_,_,_,_,_,_,_,_,_,_,_,_,_,gG hF s x,⟨x1,by rw [hk]; exact x2⟩,gG hF t x,⟨x1,by rw [nG hF,hl]; omega⟩,q_Place hP hF s fs x _ rfl,q_Place hP hF t ft x _ rfl,fun e=>?_⟩
 rcases hmv x x1 (by omega) e with h|h|h
 ·exact .inl ⟨by rw [h],by rw [h]⟩
 ·exact .inr (.inl h)
 ·exact .inr (.inr h)
def zeroD:SD:=⟨[],[],[],[],[],0,0,0,0,[],[],[],[],[],0,0⟩
theorem zero_nl (hF:F=fs):NlL [.own 1 [],.own 5 [],.own 13 [],.own 2 [],.own 1 [],.int .i64 0,.int .i64 0,.int .i64 0,.int .i64 0,.own 1 [],.own 1 [],.own 1 [],.own 1 [],.own 2 [],.int .i64 0,.int .i64 0] (stF F .o .o zeroD):=by
 subst hF
 exact ⟨.rf,.rf,.rf,.rf,.rf,.rf,.rf,.rf,.rf,.rf,.rf,.rf,.rf,.rf,.rf,.rf,True.intro⟩
theorem zero_nl' (hF:F=fs):NlL [.own 1 [],.own 5 [],.own 13 [],.own 2 [],.own 1 [],.int .i64 0,.int .i64 0,.int .i64 0,.int .i64 0,.own 1 [],.own 1 [],.own 1 [],.own 1 [],.own 2 [],.int .i64 0,.int .i64 0] (stF F .n .r zeroD):=by
 subst hF
 exact ⟨.rf,.rf,.rf,.rf,.sl,.rf,.rf,.rf,.rf,.sl,.sl,.sl,.sl,.sl,.rf,.rf,True.intro⟩
theorem keep_wake (hP:P=Try.prog) (hF:F=fs) (s:SD) (fs:Fit s) (hb:smallS s=true) (k:Int) (hk:F.n s.gs=k) (p n:Int):∃ t e,CallsV P 14 [.agg (stS F s),.int .i64 p,.int .i64 n] (.tup [.agg (stF F .o .o t),.int .i64 e]) [.undef,.undef,.undef] false/\(e=1\/(e=0/\Kept P F s t k)):=by
 cases hw:wakeOk s p n with
 |false=>exact ⟨zeroD,1,(d14f hP hF s fs p n hw).nlt (zero_nl hF),.inl rfl⟩
 |true =>
  have kw:=d14t hP hF s _ fs p n hw rfl
  unfold wakeOk at hw
  simp only [Bool.and_eq_true,decide_eq_true_eq] at hw
  obtain ⟨hm,p1,p2,g1,g2,h3⟩:=hw
  have ho:=(may_ok s).1 hm
  have hG:=getG_of (s:=s) (p:=n) (by omega)
  have hsq:=sq_of hb _ (List.mem_of_getElem? hG)
  obtain ⟨hot,r,gl,hN⟩:=wake_ok ho p1 p2 g1 g2 h3 hsq
  have heq:=hN.eq
  refine ⟨_,0,kw,.inr ⟨rfl,kept_of hP hF fs (fit_ok fs ((may_ok _).2 hot) ?_ ?_ ?_ ?_ ?_ ?_) ((may_ok _).2 hot) hk ?_ fun x x1 x2 e=>wake_moved ho p1 p2 g1 g2 h3 hsq x1 x2 e⟩⟩
  ·rw [heq]; rfl
  ·rw [heq]; exact List.length_filter_le _ _
  ·rw [heq]; exact List.length_filter_le _ _
  ·rw [heq]; exact List.length_filter_le _ _
  ·rw [heq]; exact List.length_filter_le _ _
  ·rw [heq]; exact List.length_filter_le _ _
  ·rw [heq]; simp [setP,turnS,setG,outS]
theorem keep_yield (hP:P=Try.prog) (hF:F=fs) (s:SD) (fs:Fit s) (hb:smallS s=true) (k:Int) (hk:F.n s.gs=k) (n:Int):∃ t e,CallsV P 16 [.agg (stS F s),.int .i64 n] (.tup [.agg (stF F .n .r t),.int .i64 e]) [.undef,.undef] false/\(e=1\/(e=0/\Kept P F s t k)):=by
 cases hw:yieldOk s n with
 |false=>exact ⟨zeroD,1,(d16f hP hF s fs n hw).nlt (zero_nl' hF),.inl rfl⟩
 |true =>
  have kw:=d16t hP hF s _ fs n hw rfl
  have hY:=yield_of hw
  obtain ⟨hz,-⟩:=yield_g hY
  have hsq:=sq_of hb _ (List.mem_of_getElem? (getG_of (s:=s) (p:=(getM s n).g) (by omega)))
  have hot:=yield_ok hY hsq
  have e:=yield_eq hY
  refine ⟨_,0,kw,.inr ⟨rfl,kept_of hP hF fs (fit_ok fs ((may_ok _).2 hot) ?_ ?_ ?_ ?_ ?_ ?_) ((may_ok _).2 hot) hk ?_ fun x x1 x2 e=>yield_moved hY hsq x1 x2 e⟩⟩
  ·rw [e]; rfl
  ·rw [e]; exact Nat.le_refl _
  ·rw [e]; exact Nat.le_refl _
  ·rw [e]; exact Nat.le_refl _
  ·rw [e]; exact Nat.le_refl _
  ·rw [e]; exact Nat.le_refl _
  ·rw [e]; simp [setM,turnS,setG]
theorem keep_drain (hP:P=Try.prog) (hF:F=fs) (s:SD) (fs:Fit s) (hm:mayS s=true) (k:Int) (hk:F.n s.gs=k) (p:Int):∃ t e,CallsV P 18 [.agg (stS F s),.int .i64 p] (.tup [.agg (stF F .n .r t),.int .i64 e]) [.undef,.undef] false/\(e=1\/(e=0/\Kept P F s t k)):=by
 cases hw:drainOk s p with
 |false=>exact ⟨zeroD,1,(d18f hP hF s fs p hw).nlt (zero_nl' hF),.inl rfl⟩
 |true =>
  have kw:=d18t hP hF s _ fs p hw rfl
  unfold drainOk at hw
  simp only [Bool.and_eq_true,decide_eq_true_eq] at hw
  obtain ⟨-,p1,p2⟩:=hw
  have ho:=(may_ok s).1 hm
  exact ⟨_,0,kw,.inr ⟨rfl,kept_of hP hF fs (drain_fit fs hm p1 p2) ((may_ok _).2 (drain_ok ho p1 p2)) hk rfl fun x x1 x2 _=>drain_moved ho p1 p2 x1 x2⟩⟩
def kpC (F:Fs) (w:Bool) (t:SD):List V :=
 [.sl true 1 (F.m fC t.prog),.sl true 5 (F.m gC t.gs),.sl true 13 (F.m pC t.ps),.sl true 2 (F.m mC t.ms),.sl true 1 (F.m iC t.gl),.int .i64 t.c0,.int .i64 t.c1,.int .i64 t.c2,.int .i64 t.c3,.sl w 1 (F.m iC t.w0),.sl w 1 (F.m iC t.w1),.sl w 1 (F.m iC t.w2),.sl w 1 (F.m iC t.w3),.sl w 2 (F.m tC t.ts),.int .i64 t.ck,.int .i64 t.pr]
set_option maxHeartbeats 16000000 in
theorem d4 (hP:P=Try.prog) (hF:F=fs) (s:SD) (hs:Held s) (p n:Int):CallsV P 4 [.agg (stS F s),.int .i64 p,.int .i64 n] (.bool true) [.undef,.undef,.undef] true:=by
 have kf:=d13 hP hF
 have k1:=q_Small hP hF s hs _ rfl
 cases hb:smallS s with
 |false =>
  rw [hb] at k1
  refine callsV_f hD Try.func4 ok4 hP hF (by simp only [List.map_cons,List.map_nil,V.sh,sh_F hF,sh_O hF,sh_F' hF,sh_S hF]) fun R hQ=>?_
  repeat' (cbv; first|refine .y ?_|refine .n ?_|refine .s (fun hc=>?_) fun hc=>?_|refine .z kf ?_|refine .z k1 ?_|refine .v ?_|refine .r ?_|refine .e fun v hv=>?_|refine .a fun v hv=>?_|refine .d ?_|refine .fa ?_|refine .f1 ?_|refine .u fun vr vn hvr hvn hvl=>?_|fail)
  all_goals (try cbv)
  (refine hQ _ ⟨?_,?_,?_,?_,?_⟩ <;> (try cbv) <;> (repeat' first|exact True.intro|exact rfl|assumption|exact lenU|exact frM|exact FrR.mk rfl|exact FrS.mk rfl|refine ⟨?_,?_⟩|(subst_vars; rfl)|fail))
 |true =>
 rw [hb] at k1
 have fs:=fit_small hb
 have k2:=q_rMay hP hF s fs _ rfl
 cases hm:mayS s with
 |false =>
  rw [hm] at k2
  refine callsV_f hD Try.func4 ok4 hP hF (by simp only [List.map_cons,List.map_nil,V.sh,sh_F hF,sh_O hF,sh_F' hF,sh_S hF]) fun R hQ=>?_
  repeat' (cbv; first|refine .y ?_|refine .n ?_|refine .s (fun hc=>?_) fun hc=>?_|refine .z kf ?_|refine .z k1 ?_|refine .z k2 ?_|refine .v ?_|refine .r ?_|refine .e fun v hv=>?_|refine .a fun v hv=>?_|refine .d ?_|refine .fa ?_|refine .f1 ?_|refine .u fun vr vn hvr hvn hvl=>?_|fail)
  all_goals (try cbv)
  (refine hQ _ ⟨?_,?_,?_,?_,?_⟩ <;> (try cbv) <;> (repeat' first|exact True.intro|exact rfl|assumption|exact lenU|exact frM|exact FrR.mk rfl|exact FrS.mk rfl|refine ⟨?_,?_⟩|(subst_vars; rfl)|fail))
 |true =>
 rw [hm] at k2
 obtain ⟨k,hk⟩ : ∃ k,F.n s.gs=k:=⟨_,rfl⟩
 have hk0:0<=k/\k<=1000000:=by rw [<- hk,nG hF]; have:=fs.gs; omega
 obtain ⟨ta,ea,kw,ha⟩:=keep_wake hP hF s fs hb k hk p n
 obtain ⟨tb,eb,ky,hb'⟩:=keep_yield hP hF s fs hb k hk n
 obtain ⟨tc,ec,kd,hc'⟩:=keep_drain hP hF s fs hm k hk p
 clear hb hm fs hs
 refine callsV_f hD Try.func4 ok4 hP hF (by simp only [List.map_cons,List.map_nil,V.sh,sh_F hF,sh_O hF,sh_F' hF,sh_S hF]) fun R hQ=>?_
 repeat' (cbv; first|refine .y ?_|refine .n ?_|refine .s (fun hc=>?_) fun hc=>?_|refine .z kf ?_|refine .z k1 ?_|refine .z k2 ?_|refine .z kw ?_|refine .z ky ?_|refine .z kd ?_|refine .v ?_|refine .r ?_|refine .e fun v hv=>?_|refine .a fun v hv=>?_|refine .d ?_|refine .fa ?_|refine .f1 ?_|refine .u fun vr vn hvr hvn hvl=>?_|fail)
 all_goals (try cbv)
 clear kf k1 k2 kw ky kd
 refine LoopQ.to (ι:=Int) (fun i=>⟨tab .undef [(3,.ptr 100 0),(7,.ptr 101 0),(8,.int .i64 ea),(9,.ptr 112 0),(10,.int .i64 eb),(11,.ptr 123 0),(12,.int .i64 ec),(13,.int .i64 i)],tab .dead [(100,.box (stS F s)),(101,.box (kpC F true ta)),(112,.box (kpC F false tb)),(123,.box (kpC F false tc))]⟩)
  (fun i=>i=0\/i=1\/i=2\/i=3) (fun i=>(3 - i).toNat) 0 (.inl rfl) rfl fun i hi A hA=>?_
 rcases hi with rfl|rfl|rfl|rfl
 ·rcases ha with rfl|⟨rfl,hK⟩
  ·repeat' (cbv; first|refine .y ?_|refine .n ?_|refine .s (fun hc=>?_) fun hc=>?_|refine Lt.to ⟨rfl,by decide,Nat.le_of_ble_eq_true rfl⟩ rfl ?_|refine .v ?_|refine .r ?_|refine .e fun v hv=>?_|refine .a fun v hv=>?_|refine .d ?_|refine .fa ?_|refine .f1 ?_|refine .u fun vr vn hvr hvn hvl=>?_|fail)
   all_goals (try cbv)
   obtain rfl:v=1:=by omega
   exact hA 1 _ (.inr (.inl rfl)) (by decide) (by cbv)
  ·have kM := hK.may
   have kL:=hK.len
   have kA:=hK.at'
   clear hK hb' hc'
   repeat' (cbv; first|refine .y ?_|refine .n ?_|refine .s (fun hc=>?_) fun hc=>?_|refine .z kM ?_|refine Lt.to ⟨rfl,by decide,Nat.le_of_ble_eq_true rfl⟩ rfl ?_|refine .v ?_|refine .r ?_|refine .e fun v hv=>?_|refine .a fun v hv=>?_|refine .d ?_|refine .fa ?_|refine .f1 ?_|refine .u fun vr vn hvr hvn hvl=>?_|fail)
   all_goals (try cbv)
   refine LoopQ.to (ι:=Int) (fun x=>⟨tab .undef [(3,.ptr 100 0),(7,.ptr 101 0),(8,.int .i64 0),(9,.ptr 112 0),(10,.int .i64 eb),(11,.ptr 123 0),(12,.int .i64 ec),(13,.int .i64 0),(14,.ptr 134 0),(16,.int .i64 x)],tab .dead [(100,.box (stS F s)),(101,.box (kpC F true ta)),(112,.box (kpC F false tb)),(123,.box (kpC F false tc)),(134,.box (kpC F true ta))]⟩)
    (fun x=>1<=x/\x<=k+1) (fun x=>(k+1 - x).toNat) 1 ⟨by omega,by omega⟩ rfl fun x ⟨x1,x2⟩ B hB=>?_
   by_cases hx:x<=k
   ·obtain ⟨a0,a1,a2,a3,a4,b0,b1,b2,b3,b4,u0,u1,w0,w1,hg,ig,hg',ig',kS,kT,hmv⟩:=kA x x1 hx
    clear kA hA kM
    by_cases he:a2=b2
    ·have heq:eqsP [.int .i64 w0,.int .i64 w1] [.int .i64 w0,.int .i64 w1]:=And.intro rfl (And.intro rfl True.intro)
     rcases hmv he with ⟨rfl,rfl⟩|⟨rfl,rfl⟩|⟨rfl,rfl|rfl⟩
     all_goals clear hmv
     all_goals
      repeat' (cbv; first|refine .y ?_|refine .n ?_|refine .s (fun hc=>?_) fun hc=>?_|refine .z kS ?_|refine .z kT ?_|refine .v ?_|refine .r ?_|refine .e fun v hv=>?_|refine .a fun v hv=>?_|refine .d ?_|refine .fa ?_|refine .f1 ?_|refine .u fun vr vn hvr hvn hvl=>?_|fail)
      all_goals (try cbv)
      all_goals first
       |(exfalso; omega)
       |exact absurd heq (by assumption)
       |exact hB v _ ⟨by omega,by omega⟩ (by omega) (by cbv)
    ·clear hmv
     repeat' (cbv; first|refine .y ?_|refine .n ?_|refine .s (fun hc=>?_) fun hc=>?_|refine .z kS ?_|refine .z kT ?_|refine .v ?_|refine .r ?_|refine .e fun v hv=>?_|refine .a fun v hv=>?_|refine .d ?_|refine .fa ?_|refine .f1 ?_|refine .u fun vr vn hvr hvn hvl=>?_|fail)
     all_goals (try cbv)
     all_goals first
      |(exfalso; omega)
      |exact hB v _ ⟨by omega,by omega⟩ (by omega) (by cbv)
   ·clear kA hB kM
    repeat' (cbv; first|refine .y ?_|refine .n ?_|refine .s (fun hc=>?_) fun hc=>?_|refine .v ?_|refine .r ?_|refine .e fun v hv=>?_|refine .a fun v hv=>?_|refine .d ?_|refine .fa ?_|refine .f1 ?_|refine .u fun vr vn hvr hvn hvl=>?_|fail)
    all_goals (try cbv)
    obtain rfl:v=1:=by omega
    exact hA 1 _ (.inr (.inl rfl)) (by decide) (by cbv)
 ·rcases hb' with rfl|⟨rfl,hK⟩
  ·repeat' (cbv; first|refine .y ?_|refine .n ?_|refine .s (fun hc=>?_) fun hc=>?_|refine Lt.to ⟨rfl,by decide,Nat.le_of_ble_eq_true rfl⟩ rfl ?_|refine .v ?_|refine .r ?_|refine .e fun v hv=>?_|refine .a fun v hv=>?_|refine .d ?_|refine .fa ?_|refine .f1 ?_|refine .u fun vr vn hvr hvn hvl=>?_|fail)
   all_goals (try cbv)
   obtain rfl:v=2:=by omega
   exact hA 2 _ (.inr (.inr (.inl rfl))) (by decide) (by cbv)
  ·have kM := hK.may
   have kL:=hK.len
   have kA:=hK.at'
   clear hK ha hc'
   repeat' (cbv; first|refine .y ?_|refine .n ?_|refine .s (fun hc=>?_) fun hc=>?_|refine .z kM ?_|refine Lt.to ⟨rfl,by decide,Nat.le_of_ble_eq_true rfl⟩ rfl ?_|refine .v ?_|refine .r ?_|refine .e fun v hv=>?_|refine .a fun v hv=>?_|refine .d ?_|refine .fa ?_|refine .f1 ?_|refine .u fun vr vn hvr hvn hvl=>?_|fail)
   all_goals (try cbv)
   refine LoopQ.to (ι:=Int) (fun x=>⟨tab .undef [(3,.ptr 100 0),(7,.ptr 101 0),(8,.int .i64 ea),(9,.ptr 112 0),(10,.int .i64 0),(11,.ptr 123 0),(12,.int .i64 ec),(13,.int .i64 1),(14,.ptr 134 0),(16,.int .i64 x)],tab .dead [(100,.box (stS F s)),(101,.box (kpC F true ta)),(112,.box (kpC F false tb)),(123,.box (kpC F false tc)),(134,.box (kpC F false tb))]⟩)
    (fun x=>1<=x/\x<=k+1) (fun x=>(k+1 - x).toNat) 1 ⟨by omega,by omega⟩ rfl fun x ⟨x1,x2⟩ B hB=>?_
   by_cases hx:x<=k
   ·obtain ⟨a0,a1,a2,a3,a4,b0,b1,b2,b3,b4,u0,u1,w0,w1,hg,ig,hg',ig',kS,kT,hmv⟩:=kA x x1 hx
    clear kA hA kM
    by_cases he:a2=b2
    ·have heq:eqsP [.int .i64 w0,.int .i64 w1] [.int .i64 w0,.int .i64 w1]:=And.intro rfl (And.intro rfl True.intro)
     rcases hmv he with ⟨rfl,rfl⟩|⟨rfl,rfl⟩|⟨rfl,rfl|rfl⟩
     all_goals clear hmv
     all_goals
      repeat' (cbv; first|refine .y ?_|refine .n ?_|refine .s (fun hc=>?_) fun hc=>?_|refine .z kS ?_|refine .z kT ?_|refine .v ?_|refine .r ?_|refine .e fun v hv=>?_|refine .a fun v hv=>?_|refine .d ?_|refine .fa ?_|refine .f1 ?_|refine .u fun vr vn hvr hvn hvl=>?_|fail)
      all_goals (try cbv)
      all_goals first
       |(exfalso; omega)
       |exact absurd heq (by assumption)
       |exact hB v _ ⟨by omega,by omega⟩ (by omega) (by cbv)
    ·clear hmv
     repeat' (cbv; first|refine .y ?_|refine .n ?_|refine .s (fun hc=>?_) fun hc=>?_|refine .z kS ?_|refine .z kT ?_|refine .v ?_|refine .r ?_|refine .e fun v hv=>?_|refine .a fun v hv=>?_|refine .d ?_|refine .fa ?_|refine .f1 ?_|refine .u fun vr vn hvr hvn hvl=>?_|fail)
     all_goals (try cbv)
     all_goals first
      |(exfalso; omega)
      |exact hB v _ ⟨by omega,by omega⟩ (by omega) (by cbv)
   ·clear kA hB kM
    repeat' (cbv; first|refine .y ?_|refine .n ?_|refine .s (fun hc=>?_) fun hc=>?_|refine .v ?_|refine .r ?_|refine .e fun v hv=>?_|refine .a fun v hv=>?_|refine .d ?_|refine .fa ?_|refine .f1 ?_|refine .u fun vr vn hvr hvn hvl=>?_|fail)
    all_goals (try cbv)
    obtain rfl:v=2:=by omega
    exact hA 2 _ (.inr (.inr (.inl rfl))) (by decide) (by cbv)
 ·rcases hc' with rfl|⟨rfl,hK⟩
  ·repeat' (cbv; first|refine .y ?_|refine .n ?_|refine .s (fun hc=>?_) fun hc=>?_|refine Lt.to ⟨rfl,by decide,Nat.le_of_ble_eq_true rfl⟩ rfl ?_|refine .v ?_|refine .r ?_|refine .e fun v hv=>?_|refine .a fun v hv=>?_|refine .d ?_|refine .fa ?_|refine .f1 ?_|refine .u fun vr vn hvr hvn hvl=>?_|fail)
   all_goals (try cbv)
   obtain rfl:v=3:=by omega
   exact hA 3 _ (.inr (.inr (.inr rfl))) (by decide) (by cbv)
  ·have kM := hK.may
   have kL:=hK.len
   have kA:=hK.at'
   clear hK ha hb'
   repeat' (cbv; first|refine .y ?_|refine .n ?_|refine .s (fun hc=>?_) fun hc=>?_|refine .z kM ?_|refine Lt.to ⟨rfl,by decide,Nat.le_of_ble_eq_true rfl⟩ rfl ?_|refine .v ?_|refine .r ?_|refine .e fun v hv=>?_|refine .a fun v hv=>?_|refine .d ?_|refine .fa ?_|refine .f1 ?_|refine .u fun vr vn hvr hvn hvl=>?_|fail)
   all_goals (try cbv)
   refine LoopQ.to (ι:=Int) (fun x=>⟨tab .undef [(3,.ptr 100 0),(7,.ptr 101 0),(8,.int .i64 ea),(9,.ptr 112 0),(10,.int .i64 eb),(11,.ptr 123 0),(12,.int .i64 0),(13,.int .i64 2),(14,.ptr 134 0),(16,.int .i64 x)],tab .dead [(100,.box (stS F s)),(101,.box (kpC F true ta)),(112,.box (kpC F false tb)),(123,.box (kpC F false tc)),(134,.box (kpC F false tc))]⟩)
    (fun x=>1<=x/\x<=k+1) (fun x=>(k+1 - x).toNat) 1 ⟨by omega,by omega⟩ rfl fun x ⟨x1,x2⟩ B hB=>?_
   by_cases hx:x<=k
   ·obtain ⟨a0,a1,a2,a3,a4,b0,b1,b2,b3,b4,u0,u1,w0,w1,hg,ig,hg',ig',kS,kT,hmv⟩:=kA x x1 hx
    clear kA hA kM
    by_cases he:a2=b2
    ·have heq:eqsP [.int .i64 w0,.int .i64 w1] [.int .i64 w0,.int .i64 w1]:=And.intro rfl (And.intro rfl True.intro)
     rcases hmv he with ⟨rfl,rfl⟩|⟨rfl,rfl⟩|⟨rfl,rfl|rfl⟩
     all_goals clear hmv
     all_goals
      repeat' (cbv; first|refine .y ?_|refine .n ?_|refine .s (fun hc=>?_) fun hc=>?_|refine .z kS ?_|refine .z kT ?_|refine .v ?_|refine .r ?_|refine .e fun v hv=>?_|refine .a fun v hv=>?_|refine .d ?_|refine .fa ?_|refine .f1 ?_|refine .u fun vr vn hvr hvn hvl=>?_|fail)
      all_goals (try cbv)
      all_goals first
       |(exfalso; omega)
       |exact absurd heq (by assumption)
       |exact hB v _ ⟨by omega,by omega⟩ (by omega) (by cbv)
    ·clear hmv
     repeat' (cbv; first|refine .y ?_|refine .n ?_|refine .s (fun hc=>?_) fun hc=>?_|refine .z kS ?_|refine .z kT ?_|refine .v ?_|refine .r ?_|refine .e fun v hv=>?_|refine .a fun v hv=>?_|refine .d ?_|refine .fa ?_|refine .f1 ?_|refine .u fun vr vn hvr hvn hvl=>?_|fail)
     all_goals (try cbv)
     all_goals first
      |(exfalso; omega)
      |exact hB v _ ⟨by omega,by omega⟩ (by omega) (by cbv)
   ·clear kA hB kM
    repeat' (cbv; first|refine .y ?_|refine .n ?_|refine .s (fun hc=>?_) fun hc=>?_|refine .v ?_|refine .r ?_|refine .e fun v hv=>?_|refine .a fun v hv=>?_|refine .d ?_|refine .fa ?_|refine .f1 ?_|refine .u fun vr vn hvr hvn hvl=>?_|fail)
    all_goals (try cbv)
    obtain rfl:v=3:=by omega
    exact hA 3 _ (.inr (.inr (.inr rfl))) (by decide) (by cbv)
 ·clear hA ha hb' hc'
  repeat' (cbv; first|refine .y ?_|refine .n ?_|refine .s (fun hc=>?_) fun hc=>?_|refine .v ?_|refine .r ?_|refine .e fun v hv=>?_|refine .a fun v hv=>?_|refine .d ?_|refine .fa ?_|refine .f1 ?_|refine .u fun vr vn hvr hvn hvl=>?_|fail)
  all_goals (try cbv)
  (refine hQ _ ⟨?_,?_,?_,?_,?_⟩ <;> (try cbv) <;> (repeat' first|exact True.intro|exact rfl|assumption|exact lenU|exact frM|exact FrR.mk rfl|exact FrS.mk rfl|refine ⟨?_,?_⟩|(subst_vars; rfl)|fail))
end Go.Ab
