/-
  The text of a law.
  law13: ReadyTells.
-/
import Derived.Test.YtkanpbjjabdalaaK9
import Derived.Test.YtkanpbjjabdalaaK38
set_option linter.all false
namespace Go.Ab
open Go Go.Proofs T
set_option maxRecDepth 1000000
def t3:FnT:=⟨3,[],[],[.t 6],S [g [1,2,3] [100] [100] [p 3 (.box (.t 0) 100),p 6 (B false)],S [g [1,2,3,21] [100] [] [p 19 (L 16 3),p 20 (.call 12 [r 19] []),p 21 (v 20)],.cond (.t 21) (S [g [6] [] [] [p 22 (.call 13 [] []),p 6 (m 22)],.ret]) (.skip)],g [1,2,3,7,8] [100,101] [101] [p 24 (L 16 3),p 25 (m 1),p 26 (m 2),p 27 (.call 14 [r 24,r 25,r 26] []),p 23 (m 27),p 28 (e 0 23),p 29 (e 1 23),p 7 (.alloc [.nils 1,.nils 5,.nils 13,.nils 2,.nils 1,Z,Z,Z,Z,.nils 1,.nils 1,.nils 1,.nils 1,.nils 2,Z,Z] 101 []),u (s 16 7 28),p 8 (m 29)],g [1,2,3,7,8,9,10] [100,101,112] [112] [p 31 (L 16 3),p 32 (m 1),p 33 (m 2),p 34 (.call 15 [r 31,r 32,r 33] []),p 30 (m 34),p 35 (e 0 30),p 36 (e 1 30),p 9 (.alloc [.nils 1,.nils 5,.nils 13,.nils 2,.nils 1,Z,Z,Z,Z,.nils 1,.nils 1,.nils 1,.nils 1,.nils 2,Z,Z] 112 []),u (s 16 9 35),p 10 (m 36)],g [1,2,3,7,8,9,10,11,12] [100,101,112,123] [123] [p 38 (L 16 3),p 39 (m 2),p 40 (.call 16 [r 38,r 39] []),p 37 (m 40),p 41 (e 0 37),p 42 (e 1 37),p 11 (.alloc [.nils 1,.nils 5,.nils 13,.nils 2,.nils 1,Z,Z,Z,Z,.nils 1,.nils 1,.nils 1,.nils 1,.nils 2,Z,Z] 123 []),u (s 16 11 41),p 12 (m 42)],g [1,2,3,7,8,9,10,11,12,13,14] [100,101,112,123,134] [134] [p 44 (L 16 3),p 45 (m 2),p 46 (.call 17 [r 44,r 45] []),p 43 (m 46),p 47 (e 0 43),p 48 (e 1 43),p 13 (.alloc [.nils 1,.nils 5,.nils 13,.nils 2,.nils 1,Z,Z,Z,Z,.nils 1,.nils 1,.nils 1,.nils 1,.nils 2,Z,Z] 134 []),u (s 16 13 47),p 14 (m 48)],g [1,2,3,7,8,9,10,11,12,13,14,15,16] [100,101,112,123,134,145] [145] [p 50 (L 16 3),p 51 (m 1),p 52 (.call 18 [r 50,r 51] []),p 49 (m 52),p 53 (e 0 49),p 54 (e 1 49),p 15 (.alloc [.nils 1,.nils 5,.nils 13,.nils 2,.nils 1,Z,Z,Z,Z,.nils 1,.nils 1,.nils 1,.nils 1,.nils 2,Z,Z] 145 []),u (s 16 15 53),p 16 (m 54)],g [1,2,3,7,8,9,10,11,12,13,14,15,16,17,18] [100,101,112,123,134,145,156] [156] [p 56 (L 16 3),p 57 (m 1),p 58 (.call 19 [r 56,r 57] []),p 55 (m 58),p 59 (e 0 55),p 60 (e 1 55),p 17 (.alloc [.nils 1,.nils 5,.nils 13,.nils 2,.nils 1,Z,Z,Z,Z,.nils 1,.nils 1,.nils 1,.nils 1,.nils 2,Z,Z] 156 []),u (s 16 17 59),p 18 (m 60)],.fgt false [6] [] (.regd [] [(p 61 (.call 13 [] []),1),(p 62 (m 61),0),(w 63 (L 16 7) 62,1),(w 64 (L 16 9) 62,1),(w 65 (.call 20 [r 63,r 64] []) 62,1),(p 66 (n 62 65),0),(p 67 (m 66),0),(w 68 (m 8) 67,0),(w 69 (m 10) 67,0),(w 70 (b .eql 68 69) 67,0),(p 71 (n 67 70),0),(p 72 (m 71),0),(w 73 (L 16 11) 72,1),(w 74 (L 16 13) 72,1),(w 75 (.call 20 [r 73,r 74] []) 72,1),(p 76 (n 72 75),0),(p 77 (m 76),0),(w 78 (m 12) 77,0),(w 79 (m 14) 77,0),(w 80 (b .eql 78 79) 77,0),(p 81 (n 77 80),0),(p 82 (m 81),0),(w 83 (L 16 15) 82,1),(w 84 (L 16 17) 82,1),(w 85 (.call 20 [r 83,r 84] []) 82,1),(p 86 (n 82 85),0),(p 87 (m 86),0),(w 88 (m 16) 87,0),(w 89 (m 18) 87,0),(w 90 (b .eql 88 89) 87,0),(p 91 (n 87 90),0),(p 92 (m 91),0),(w 93 (L 16 3) 92,1),(w 94 (m 1) 92,0),(w 95 (m 2) 92,0),(w 96 (.call 21 [r 93,r 94,r 95] []) 92,1),(w 97 (L 16 3) 92,1),(w 98 (m 1) 92,0),(w 99 (m 2) 92,0),(w 100 (.call 22 [r 97,r 98,r 99] []) 92,1),(w 101 (.call 20 [r 96,r 100] []) 92,1),(p 102 (n 92 101),0),(p 6 (m 102),0)]),.ret]⟩
theorem ok3:okFn Try.prog Try.f3 t3=true:=by kernel_rfl
end Go.Ab

namespace Go.Ab
open Go Go.Proofs
set_option maxRecDepth 100000
variable {P:Program} {F:Fs}
theorem small_gl {s:SD} (h:smallS s=true):s.gl.length<=80:=by
 unfold smallS at h
 simp only [Bool.and_eq_true,decide_eq_true_eq] at h
 omega
theorem fit_setP {s:SD} (hs:Fit s) (p:Int) (x:PD):Fit (setP s p x):=⟨hs.prog,hs.code,hs.gs,by simpa [setP] using hs.ps,hs.ms,hs.gl,hs.w0,hs.w1,hs.w2,hs.w3,hs.ts⟩
theorem fit_lay {s:SD} (hs:Fit s) (hg:s.gl.length<=900000) (p g:Int):Fit (layS s p g):=by
 unfold layS
 dsimp only
 split
 ·exact fit_setP hs _ _
 ·have h:=fit_setP hs p { (getP s p) with r:=atR (((getP s p).r.h+4) % 8) ((listR (getP s p).r).drop 4) }
  refine ⟨h.prog,h.code,h.gs,h.ps,h.ms,?_,h.w0,h.w1,h.w2,h.w3,h.ts⟩
  show (s.gl ++ List.take 4 _ ++ [g]).length<=_
  simp only [List.length_append,List.length_take,List.length_cons,List.length_nil]; omega
theorem fit_next {s:SD} (hs:Fit s) (hg:s.gl.length<=900000) (p g:Int):Fit (nextS s p g):=by
 unfold nextS
 dsimp only
 split
 ·exact fit_setP hs _ _
 ·exact fit_lay (fit_setP hs _ _) hg _ _
theorem fit_wake {s:SD} (hs:Fit s) (hg:s.gl.length<=900000) (p g:Int):Fit (wakeS s p g):=fit_next (fit_turn (fit_out hs g) _ _ _) hg _ _
theorem fit_yield {s:SD} (hs:Fit s) (hg:s.gl.length<=900000) (m:Int):Fit (yieldS s m):=by
 have h:=fit_turn hs (getM s m).g 1 0
 refine ⟨h.prog,h.code,h.gs,h.ps,?_,?_,h.w0,h.w1,h.w2,h.w3,h.ts⟩
 ·have:=h.ms; simpa [yieldS,setM] using this
 ·show (s.gl ++ [(getM s m).g]).length<=_
  simp only [List.length_append,List.length_cons,List.length_nil]; omega
theorem fit_tail {s:SD} (hs:Fit s) (hg:s.gl.length<=900000) (p g:Int):Fit (tailS s p g):=by
 unfold tailS
 split
 ·exact fit_lay hs hg _ _
 ·exact hs
def zS:SD:=⟨[],[],[],[],[],0,0,0,0,[],[],[],[],[],0,0⟩
theorem zero_stS (hF:F=fs):stS F zS=[.sl false 1 [],.sl false 5 [],.sl false 13 [],.sl false 2 [],.sl false 1 [],.int .i64 0,.int .i64 0,.int .i64 0,.int .i64 0,.sl false 1 [],.sl false 1 [],.sl false 1 [],.sl false 1 [],.sl false 2 [],.int .i64 0,.int .i64 0]:=by
 subst hF; rfl
theorem tell_wake (hP:P=Try.prog) (hF:F=fs) (s:SD) (fs:Fit s) (hg:s.gl.length<=80) (p n:Int) :
  (CallsV P 14 [.agg (stS F s),.int .i64 p,.int .i64 n] (.tup [zeroV,.int .i64 1]) [.undef,.undef,.undef] true/\CallsV P 15 [.agg (stS F s),.int .i64 p,.int .i64 n] (.tup [zeroV,.int .i64 1]) [.undef,.undef,.undef] true) \/
  ∃
   t,CallsV P 14 [.agg (stS F s),.int .i64 p,.int .i64 n] (.tup [.agg (stF F .o .o t),.int .i64 0]) [.undef,.undef,.undef] false/\CallsV P 15 [.agg (stS F s),.int .i64 p,.int .i64 n] (.tup [.agg (stW F t),.int .i64 0]) [.undef,.undef,.undef] false /\
   CallsV P 20 [.agg (stS F t),.agg (stS F t)] (.bool true) [.undef,.undef] true:=by
 cases hw:wakeOk s p n with
 |false=>exact .inl ⟨d14f hP hF s fs p n hw,d15f hP hF s fs p n hw⟩
 |true=>exact .inr ⟨_,d14t hP hF s _ fs p n hw rfl,d15t hP hF s _ fs p n hw rfl,q_Same hP hF _ _ (fit_wake fs (by omega) p n) true (by simp)⟩
theorem tell_yield (hP:P=Try.prog) (hF:F=fs) (s:SD) (fs:Fit s) (hg:s.gl.length<=80) (n:Int) :
  (CallsV P 16 [.agg (stS F s),.int .i64 n] (.tup [zeroV,.int .i64 1]) [.undef,.undef] true/\CallsV P 17 [.agg (stS F s),.int .i64 n] (.tup [zeroV,.int .i64 1]) [.undef,.undef] true) \/
  ∃
   t,CallsV P 16 [.agg (stS F s),.int .i64 n] (.tup [.agg (stF F .n .r t),.int .i64 0]) [.undef,.undef] false/\CallsV P 17 [.agg (stS F s),.int .i64 n] (.tup [.agg (stF F .n .o t),.int .i64 0]) [.undef,.undef] false /\
   CallsV P 20 [.agg (stS F t),.agg (stS F t)] (.bool true) [.undef,.undef] true:=by
 cases hw:yieldOk s n with
 |false=>exact .inl ⟨d16f hP hF s fs n hw,d17f hP hF s fs n hw⟩
 |true=>exact .inr ⟨_,d16t hP hF s _ fs n hw rfl,d17t hP hF s _ fs n hw rfl,q_Same hP hF _ _ (fit_yield fs (by omega) n) true (by simp)⟩
theorem tell_drain (hP:P=Try.prog) (hF:F=fs) (s:SD) (fs:Fit s) (p:Int) :
  (CallsV P 18 [.agg (stS F s),.int .i64 p] (.tup [zeroV,.int .i64 1]) [.undef,.undef] true/\CallsV P 19 [.agg (stS F s),.int .i64 p] (.tup [zeroV,.int .i64 1]) [.undef,.undef] true) \/
  ∃
   t,CallsV P 18 [.agg (stS F s),.int .i64 p] (.tup [.agg (stF F .n .r t),.int .i64 0]) [.undef,.undef] false/\CallsV P 19 [.agg (stS F s),.int .i64 p] (.tup [.agg (stF F .n .o t),.int .i64 0]) [.undef,.undef] false /\
   CallsV P 20 [.agg (stS F t),.agg (stS F t)] (.bool true) [.undef,.undef] true:=by
 cases hw:drainOk s p with
 |false=>exact .inl ⟨d18f hP hF s fs p hw,d19f hP hF s fs p hw⟩
 |true =>
  have hw':=hw
  unfold drainOk at hw'
  simp only [Bool.and_eq_true,decide_eq_true_eq] at hw'
  exact .inr ⟨_,d18t hP hF s _ fs p hw rfl,d19t hP hF s _ fs p hw rfl,q_Same hP hF _ _ (drain_fit fs hw'.1 hw'.2.1 hw'.2.2) true (by simp)⟩
theorem tell_tail (hP:P=Try.prog) (hF:F=fs) (s:SD) (hs:Fit s) (hg:s.gl.length<=80) (p n:Int) :
  ∃
   t,CallsV P 21 [.agg (stS F s),.int .i64 p,.int .i64 n] (.agg (stF F .o .r t)) [.undef,.undef,.undef] false/\CallsV P 20 [.agg (stS F t),.agg (stS F t)] (.bool true) [.undef,.undef] true /\
   (CallsV P 22 [.agg (stS F s),.int .i64 p,.int .i64 n] (.agg (stF F .o .o t)) [.undef,.undef,.undef] false\/CallsV P 22 [.agg (stS F s),.int .i64 p,.int .i64 n] (.agg (stS F t)) [.undef,.undef,.undef] false):=by
 refine ⟨_,d21 hP hF s _ hs p n rfl,q_Same hP hF _ _ (fit_tail hs (by omega) p n) true (by simp),?_⟩
 unfold tailS
 split
 ·next h =>
  obtain ⟨p1,p2,g1,hr⟩:=h
  exact .inl (d22t hP hF s _ hs p n ⟨p1,by rw [nP hF]; omega⟩ g1 (by rw [gP hF]; exact hr) rfl)
 ·next h=>exact .inr (d22f hP hF s hs p n h)
set_option maxHeartbeats 16000000 in
theorem d3 (hP:P=Try.prog) (hF:F=fs) (s:SD) (hs:Held s) (p n:Int):CallsV P 3 [.agg (stS F s),.int .i64 p,.int .i64 n] (.bool true) [.undef,.undef,.undef] true:=by
 have kf:=d13 hP hF
 have k1:=q_Small hP hF s hs _ rfl
 cases hb:smallS s with
 |false =>
  rw [hb] at k1
  refine callsV_f hD Try.func3 ok3 hP hF (by simp only [List.map_cons,List.map_nil,V.sh,sh_F hF,sh_O hF,sh_F' hF,sh_S hF]) fun R hQ=>?_
  repeat' (cbv; first|refine .y ?_|refine .n ?_|refine .s (fun hc=>?_) fun hc=>?_|refine .z kf ?_|refine .z k1 ?_|refine .v ?_|refine .r ?_|refine .e fun v hv=>?_|refine .a fun v hv=>?_|refine .d ?_|refine .fa ?_|refine .f1 ?_|refine .u fun vr vn hvr hvn hvl=>?_|fail)
  all_goals (try cbv)
  (refine hQ _ ⟨?_,?_,?_,?_,?_⟩ <;> (try cbv) <;> (repeat' first|exact True.intro|exact rfl|assumption|exact lenU|exact frM|exact FrR.mk rfl|exact FrS.mk rfl|refine ⟨?_,?_⟩|(subst_vars; rfl)|fail))
 |true =>
 rw [hb] at k1
 have fs:=fit_small hb
 have hg:=small_gl hb
 have kz:=q_Same hP hF zS zS (by constructor <;> simp [zS]) true (by simp)
 rw [zero_stS hF] at kz
 have hW:=tell_wake hP hF s fs hg p n
 have hY:=tell_yield hP hF s fs hg n
 have hD:=tell_drain hP hF s fs p
 obtain ⟨td,kt,kst,hT⟩:=tell_tail hP hF s fs hg p n
 clear hb hg fs hs
 rcases hT with kT|kT
 all_goals rcases hW with ⟨kw,kW⟩|⟨ta,kw,kW,ksw⟩
 all_goals rcases hY with ⟨ky,kY⟩|⟨tb,ky,kY,ksy⟩
 all_goals rcases hD with ⟨kd,kD⟩|⟨tc,kd,kD,ksd⟩
 all_goals
  refine callsV_f hD Try.func3 ok3 hP hF (by simp only [List.map_cons,List.map_nil,V.sh,sh_F hF,sh_O hF,sh_F' hF,sh_S hF]) fun R hQ=>?_
  repeat' (cbv; first|refine .y ?_|refine .n ?_|refine .s (fun hc=>?_) fun hc=>?_|refine .z kf ?_|refine .z k1 ?_|refine .z kw ?_|refine .z kW ?_|refine .z ky ?_|refine .z kY ?_|refine .z kd ?_|refine .z kD ?_|refine .z kt ?_|refine .z kT ?_|refine .z kz ?_|refine .z kst ?_|refine .z ksw ?_|refine .z ksy ?_|refine .z ksd ?_|refine .v ?_|refine .r ?_|refine .e fun v hv=>?_|refine .a fun v hv=>?_|refine .d ?_|refine .fa ?_|refine .f1 ?_|refine .u fun vr vn hvr hvn hvl=>?_|fail)
  all_goals (try cbv)
  (refine hQ _ ⟨?_,?_,?_,?_,?_⟩ <;> (try cbv) <;> (repeat' first|exact True.intro|exact rfl|assumption|exact lenU|exact frM|exact FrR.mk rfl|exact FrS.mk rfl|refine ⟨?_,?_⟩|(subst_vars; rfl)|fail))
end Go.Ab
