/-
  law13: the document's answers (R13): small ones.
  Texts of functions, of law13.
  law13: the document's answers (R13): rings, laid behind.
  law13: the document's answers (R13): lists without a number.
-/
import Derived.Test.YtkanpbjjabdalaaProg
import Derived.KernelRfl
import Derived.Test.YtkanpbjjabdalaaK7
import Derived.Test.YtkanpbjjabdalaaK9
import Derived.Test.YtkanpbjjabdalaaK10
import Derived.Test.YtkanpbjjabdalaaK28
import Derived.Test.YtkanpbjjabdalaaK29
import Derived.Test.YtkanpbjjabdalaaK31
import Derived.Test.YtkanpbjjabdalaaK32
set_option linter.all false
namespace Go.Ab
open Go Go.Proofs
set_option maxRecDepth 100000
variable {P:Program} {F:Fs}
theorem q_rCopy (hP:P=Try.prog) (hF:F=fs) (s:SD) (hs:Fit s):CallsV P 93 [.agg (stS F s)] (.agg (stF F .o .o s)) [.undef] false:=by
 have:=q93 s hs
 rwa [stS_C hF,stF_O hF,<- hP] at this
theorem shL_pC (x:PD):V.shL (pC x)=pC x:=rfl
theorem shL_mC (x:MD):V.shL (mC x)=mC x:=rfl
set_option maxHeartbeats 1000000 in
theorem d49 (hP:P=Try.prog) (hF:F=fs) (s t:SD) (hs:Fit s) (p:Int) (x:PD) (h:In F s.ps p) (ht:t={ s with ps:=F.u s.ps p x }) :
  CallsV P 49 [.agg (stS F s),.int .i64 p,.agg (pC x)] (.agg (stF F .o .o t)) [.undef,.undef,.undef] false:=by
 have k1:=q_rCopy hP hF s hs
 have h1:=h.lo
 have h2:p<=1000000:=by have:=h.hi; rw [nP hF] at this; have:=hs.ps; omega
 obtain ⟨y0,y1,y2,y3,hy,ey0,ey1,ey2,ey3⟩:=elP (F.g s.ps p)
 refine callsV_f hD Try.func49 ok49 hP hF (by simp only [List.map_cons,List.map_nil,V.sh,sh_F hF,sh_O hF,sh_F' hF,sh_S hF,shL_pC]) fun R hQ=>?_
 repeat' (cbv; first|refine .y ?_|refine .n ?_|refine .s (fun hc=>?_) fun hc=>?_|refine .z k1 ?_|refine .v ?_|refine .r ?_|refine .e fun v hv=>?_|refine .a fun v hv=>?_|refine .d ?_|refine .fa ?_|refine .f1 ?_|refine .u fun vr vn hvr hvn hvl=>?_|fail)
 all_goals (try cbv)
 (refine hQ _ ⟨?_,?_,?_,?_,?_⟩ <;> (try cbv) <;> (repeat' first|exact True.intro|exact rfl|assumption|exact lenU|exact frM|exact FrR.mk rfl|exact FrS.mk rfl|refine ⟨?_,?_⟩|(subst_vars; rfl)|fail))
set_option maxHeartbeats 1000000 in
theorem d46 (hP:P=Try.prog) (hF:F=fs) (s t:SD) (hs:Fit s) (p:Int) (x:MD) (h:In F s.ms p) (ht:t={ s with ms:=F.u s.ms p x }) :
  CallsV P 46 [.agg (stS F s),.int .i64 p,.agg (mC x)] (.agg (stF F .o .o t)) [.undef,.undef,.undef] false:=by
 have k1:=q_rCopy hP hF s hs
 have h1:=h.lo
 have h2:p<=1000000:=by have:=h.hi; rw [nM hF] at this; have:=hs.ms; omega
 obtain ⟨y0,y1,hy,ey0,ey1⟩:=elM (F.g s.ms p)
 refine callsV_f hD Try.func46 ok46 hP hF (by simp only [List.map_cons,List.map_nil,V.sh,sh_F hF,sh_O hF,sh_F' hF,sh_S hF,shL_mC]) fun R hQ=>?_
 repeat' (cbv; first|refine .y ?_|refine .n ?_|refine .s (fun hc=>?_) fun hc=>?_|refine .z k1 ?_|refine .v ?_|refine .r ?_|refine .e fun v hv=>?_|refine .a fun v hv=>?_|refine .d ?_|refine .fa ?_|refine .f1 ?_|refine .u fun vr vn hvr hvn hvl=>?_|fail)
 all_goals (try cbv)
 (refine hQ _ ⟨?_,?_,?_,?_,?_⟩ <;> (try cbv) <;> (repeat' first|exact True.intro|exact rfl|assumption|exact lenU|exact frM|exact FrR.mk rfl|exact FrS.mk rfl|refine ⟨?_,?_⟩|(subst_vars; rfl)|fail))
set_option maxHeartbeats 1000000 in
theorem d44 (hP:P=Try.prog) (hF:F=fs) (s t:SD) (hs:Fit s) (g st m:Int) (h:In F s.gs g) (hq:-9000000000000000000<=(F.g s.gs g).sq/\(F.g s.gs g).sq<=9000000000000000000) (ht:t=turnS s g st m) :
  CallsV P 44 [.agg (stS F s),.int .i64 g,.int .i64 st,.int .i64 m] (.agg (stF F .o .o t)) [.undef,.undef,.undef,.undef] false:=by
 have k1:=q_rCopy hP hF s hs
 have h1:=h.lo
 have h2:g<=1000000:=by have:=h.hi; rw [nG hF] at this; have:=hs.gs; omega
 obtain ⟨x0,x1,x2,x3,x4,hx,ex0,ex1,ex2,ex3,ex4⟩:=elG (F.g s.gs g)
 rw [<- ex4] at hq
 refine callsV_f hD Try.func44 ok44 hP hF (by simp only [List.map_cons,List.map_nil,V.sh,sh_F hF,sh_O hF,sh_F' hF,sh_S hF]) fun R hQ=>?_
 repeat' (cbv; first|refine .y ?_|refine .n ?_|refine .s (fun hc=>?_) fun hc=>?_|refine .z k1 ?_|refine .v ?_|refine .r ?_|refine .e fun v hv=>?_|refine .a fun v hv=>?_|refine .d ?_|refine .fa ?_|refine .f1 ?_|refine .u fun vr vn hvr hvn hvl=>?_|fail)
 all_goals (try cbv)
 (refine hQ _ ⟨?_,?_,?_,?_,?_⟩ <;> (try cbv) <;> (repeat' first|exact True.intro|exact rfl|assumption|exact lenU|exact frM|exact FrR.mk rfl|exact FrS.mk rfl|refine ⟨?_,?_⟩|(subst_vars; rfl)|fail))
theorem d42 (hP:P=Try.prog) (hF:F=fs) (n k:Int) (b:Bool) (hb:b=decide (1<=n/\n<=k)):CallsV P 42 [.int .i64 n,.int .i64 k] (.bool b) [.undef,.undef] true:=by
 by_cases h1:1<=n
 ·by_cases h2:n<=k
  ·rw [decide_eq_true ⟨h1,h2⟩] at hb
   subst hb
   refine callsV_f hD Try.func42 ok42 hP hF rfl fun R hQ=>?_
   repeat' (cbv; first|refine .y ?_|refine .n ?_|refine .s (fun hc=>?_) fun hc=>?_|refine .v ?_|refine .r ?_|refine .e fun v hv=>?_|refine .a fun v hv=>?_|refine .d ?_|refine .fa ?_|refine .f1 ?_|refine .u fun vr vn hvr hvn hvl=>?_|fail)
   all_goals (try cbv)
   (refine hQ _ ⟨?_,?_,?_,?_,?_⟩ <;> (try cbv) <;> (repeat' first|exact True.intro|exact rfl|assumption|exact lenU|exact frM|exact FrR.mk rfl|exact FrS.mk rfl|refine ⟨?_,?_⟩|(subst_vars; rfl)|fail))
  ·rw [decide_eq_false (fun h=>h2 h.2)] at hb
   subst hb
   refine callsV_f hD Try.func42 ok42 hP hF rfl fun R hQ=>?_
   repeat' (cbv; first|refine .y ?_|refine .n ?_|refine .s (fun hc=>?_) fun hc=>?_|refine .v ?_|refine .r ?_|refine .e fun v hv=>?_|refine .a fun v hv=>?_|refine .d ?_|refine .fa ?_|refine .f1 ?_|refine .u fun vr vn hvr hvn hvl=>?_|fail)
   all_goals (try cbv)
   (refine hQ _ ⟨?_,?_,?_,?_,?_⟩ <;> (try cbv) <;> (repeat' first|exact True.intro|exact rfl|assumption|exact lenU|exact frM|exact FrR.mk rfl|exact FrS.mk rfl|refine ⟨?_,?_⟩|(subst_vars; rfl)|fail))
 ·rw [decide_eq_false (fun h=>h1 h.1)] at hb
  subst hb
  refine callsV_f hD Try.func42 ok42 hP hF rfl fun R hQ=>?_
  repeat' (cbv; first|refine .y ?_|refine .n ?_|refine .s (fun hc=>?_) fun hc=>?_|refine .v ?_|refine .r ?_|refine .e fun v hv=>?_|refine .a fun v hv=>?_|refine .d ?_|refine .fa ?_|refine .f1 ?_|refine .u fun vr vn hvr hvn hvl=>?_|fail)
  all_goals (try cbv)
  (refine hQ _ ⟨?_,?_,?_,?_,?_⟩ <;> (try cbv) <;> (repeat' first|exact True.intro|exact rfl|assumption|exact lenU|exact frM|exact FrR.mk rfl|exact FrS.mk rfl|refine ⟨?_,?_⟩|(subst_vars; rfl)|fail))
end Go.Ab

namespace Go.Ab
open Go Go.Proofs T
set_option maxRecDepth 1000000
def t22x:FnT:=⟨3,[],[],[.c true 16 6],S [g [1,2,3,6] [0] [100,101] [p 3 (.box (.t 0) 100),p 6 (.alloc [.nils 1,.nils 5,.nils 13,.nils 2,.nils 1,Z,Z,Z,Z,.nils 1,.nils 1,.nils 1,.nils 1,.nils 2,Z,Z] 101 [])],S [g [1,2,3,6,24] [0] [] [p 12 (m 1),p 13 (c .lss 12 1),p 14 (m 13),q 15 (m 1) 14,q 16 (f 2 3) 14,q 17 (l 16) 14,q 18 (h 17) 14,q 19 (b .gtr 15 18) 14,p 20 (o 14 19),p 21 (m 20),q 22 (m 2) 21,q 23 (c .lss 22 1) 21,p 24 (o 21 23)],.cond (.t 24) (S [g [6] [0] [] [p 25 (L 16 3),u (s 16 6 25)],.ret]) (.skip)],g [1,2,3,6,7] [0] [112] [p 26 (f 2 3),p 27 (l 26),p 28 (m 1),p 29 (c .sub 28 1),p 30 (x 13 27 29),p 31 (L 13 30),p 7 (.alloc [Z,Z,Z,Z,Z,Z,Z,Z,Z,Z,Z,Z,Z] 112 []),u (s 13 7 31)],S [g [1,2,3,6,7,35] [0] [] [p 32 (f 2 7),p 33 (L 10 32),p 34 (.call 56 [r 33] []),p 35 (v 34)],.cond (.t 35) (S [g [6] [0] [] [p 36 (L 16 3),u (s 16 6 36)],.ret]) (.skip)],g [1,2,3,6,7,8,9] [0] [113] [p 38 (f 2 7),p 39 (L 10 38),p 40 (m 2),p 41 (.call 57 [r 39,r 40] []),p 37 (m 41),p 42 (e 0 37),p 43 (e 1 37),p 8 (.alloc [Z,Z,Z,Z,Z,Z,Z,Z,Z,Z] 113 []),u (s 10 8 42),p 9 (m 43)],S [g [1,2,3,6,7,8,44] [0] [] [p 44 (m 9)],.cond (.t 44) (S [g [1,3,6,7] [0] [] [p 45 (L 10 8),p 46 (f 2 7),u (s 10 46 45)],g [6] [0] [114,115,116,117,118,119,120,121,122,123] [p 47 (L 16 3),p 48 (m 1),p 49 (L 13 7),p 50 (.call 49 [r 47,r 48,r 49] [114,115,116,117,118,119,120,121,122,123]),u (s 16 6 50)],.ret]) (.skip)],g [1,2,3,6,7,10,11] [0] [124] [p 52 (f 2 7),p 53 (L 10 52),p 54 (.call 58 [r 53] []),p 51 (m 54),p 55 (e 0 51),p 56 (e 1 51),p 10 (.alloc [Z,Z,Z,Z,Z,Z,Z,Z,Z,Z] 124 []),u (s 10 10 55),p 11 (m 56)],g [1,2,3,6,7,11] [0] [] [p 57 (L 10 10),p 58 (f 2 7),u (s 10 58 57)],g [2,3,6,11] [0] [125,126,127,128,129,130,131,132,133,134] [p 59 (L 16 3),p 60 (m 1),p 61 (L 13 7),p 62 (.call 49 [r 59,r 60,r 61] [125,126,127,128,129,130,131,132,133,134]),u (s 16 3 62)],g [3,6] [0] [] [p 63 (f 4 3),p 64 (l 63),p 65 (m 11),p 66 (.app 1 8 (.t 64) (.t 65) (some 129)),p 67 (m 2),p 68 (.bsl 1 [(.t 67)] none),p 69 (.app 1 8 (.t 66) (.t 68) (some 129)),p 70 (f 4 3),u (s 1 70 69)],g [6] [0] [] [p 71 (L 16 3),u (s 16 6 71)],.ret]⟩
theorem ok22x:okFn Try.prog Try.f22 t22x=true:=by kernel_rfl
def t57x:FnT:=⟨2,[],[],[.c true 10 4,.t 5],S [g [1,2,4] [100,101] [100,101] [p 2 (.box (.t 0) 100),p 4 (.alloc [Z,Z,Z,Z,Z,Z,Z,Z,Z,Z] 101 []),p 5 (B false)],S [g [1,2,4,17] [100,101] [] [p 6 (L 10 2),p 7 (.call 56 [r 6] []),p 8 (v 7),p 9 (m 8),q 10 (f 9 2) 9,q 11 (l 10) 9,q 12 (c .eql 11 8) 9,p 13 (o 9 12),p 14 (m 13),q 15 (m 1) 14,q 16 (c .lss 15 1) 14,p 17 (o 14 16)],.cond (.t 17) (S [g [4,5] [101] [] [p 18 (.build [Z,Z,Z,Z,Z,Z,Z,Z,Z,Z] []),u (s 10 4 18),p 5 (B false)],.ret]) (.skip)],.fgt false [4,5] [101] (.regd [102] [(p 19 (f 8 2),4),(p 20 (l 19),4),(p 21 (L 10 2),1),(p 22 (.call 27 [r 21] [102]),1),(p 23 (m 1),0),(p 24 (.bsl 1 [(.t 23)] none),1),(p 25 (.app 1 8 (.t 22) (.t 24) (some 102)),3),(p 26 (.call 78 [r 20,r 25] []),1),(u (s 10 4 26),2),(p 5 (B true),0)]),.ret]⟩
theorem ok57x:okFn Try.prog Try.f57 t57x=true:=by kernel_rfl
end Go.Ab

namespace Go.Ab
open Go Go.Proofs
set_option maxRecDepth 100000
variable {P:Program} {F:Fs}
theorem eight_list {l:List Int} (h:l.length=8):∃ a0 a1 a2 a3 a4 a5 a6 a7,l=[a0,a1,a2,a3,a4,a5,a6,a7]:=by
 match l,h with
 |[a0,a1,a2,a3,a4,a5,a6,a7],_=>exact ⟨a0,a1,a2,a3,a4,a5,a6,a7,rfl⟩
theorem d57t (hP:P=Try.prog) (hF:F=fs) (r:RD) (g:Int) (hr:mayR r=true) (hl:(listR r).length < 8) (g1:1<=g) :
  CallsV P 57 [.agg (rC r),.int .i64 g] (.tup [.agg (rC (atR r.h (listR r ++ [g]))),.bool true]) [.undef,.undef] true:=by
 have k1:=r_rMay r true hr.symm
 rw [<- hP] at k1
 have k2:=q_rList hP hF r
 obtain ⟨h0,h1,-,-,-⟩:=(mayR_iff r).1 hr
 have k3:=c78 r.h (listR r ++ [g]) h0 h1 (by simp; omega)
 have hn:r.n≠8:=by have:=listR_n hr; omega
 obtain ⟨y,hy⟩ : ∃ y,y=atR r.h (listR r ++ [g]):=⟨_,rfl⟩
 rw [<- hy,<- hP,show (listR r ++ [g]).map iC=F.m iC (F.a (listR r) [g]) by rw [hF]; rfl] at k3
 rw [<- hy]
 obtain ⟨l,hl'⟩ : ∃ l,l=listR r:=⟨_,rfl⟩
 rw [<- hl'] at k2 k3 hl
 have fl:Few F l:=⟨by rw [hF]; show ((l.length:Nat):Int)<=_; omega⟩
 clear hl' hy
 obtain ⟨b0,b1,b2,b3,b4,b5,b6,b7,h,m⟩:=r
 have hm:m≠8:=hn
 clear hn hl h0 h1 hr
 refine callsV_f hD Try.func57 ok57x hP hF rfl fun R hQ=>?_
 repeat' (cbv; first|refine .y ?_|refine .n ?_|refine .s (fun hc=>?_) fun hc=>?_|refine .z k1 ?_|refine .z k2 ?_|refine .z k3 ?_|refine .v ?_|refine .r ?_|refine .e fun v hv=>?_|refine .a fun v hv=>?_|refine .d ?_|refine .fa ?_|refine .f1 ?_|refine .u fun vr vn hvr hvn hvl=>?_|fail)
 all_goals (try cbv)
 all_goals first
  |(exfalso; omega)
  |(refine hQ _ ⟨?_,?_,?_,?_,?_⟩ <;> (try cbv) <;> (repeat' first|exact True.intro|exact rfl|assumption|exact lenU|exact frM|exact FrR.mk rfl|exact FrS.mk rfl|refine ⟨?_,?_⟩|(subst_vars; rfl)|fail))
theorem d57f (hP:P=Try.prog) (hF:F=fs) (r:RD) (g:Int) (hr:mayR r=true) (hl:(listR r).length=8) :
  CallsV P 57 [.agg (rC r),.int .i64 g] (.tup [.agg (rC zeroR),.bool false]) [.undef,.undef] true:=by
 have k1:=r_rMay r true hr.symm
 rw [<- hP] at k1
 have hn:r.n=8:=by have:=listR_n hr; omega
 obtain ⟨b0,b1,b2,b3,b4,b5,b6,b7,h,m⟩:=r
 have hm:m=8:=hn
 clear hn hl hr
 subst hm
 refine callsV_f hD Try.func57 ok57 hP hF rfl fun R hQ=>?_
 repeat' (cbv; first|refine .y ?_|refine .n ?_|refine .s (fun hc=>?_) fun hc=>?_|refine .z k1 ?_|refine .v ?_|refine .r ?_|refine .e fun v hv=>?_|refine .a fun v hv=>?_|refine .d ?_|refine .fa ?_|refine .f1 ?_|refine .u fun vr vn hvr hvn hvl=>?_|fail)
 all_goals (try cbv)
 (refine hQ _ ⟨?_,?_,?_,?_,?_⟩ <;> (try cbv) <;> (repeat' first|exact True.intro|exact rfl|assumption|exact lenU|exact frM|exact FrR.mk rfl|exact FrS.mk rfl|refine ⟨?_,?_⟩|(subst_vars; rfl)|fail))
set_option maxHeartbeats 4000000 in
theorem d58 (hP:P=Try.prog) (hF:F=fs) (r:RD) (hr:mayR r=true) (hl:(listR r).length=8) :
  CallsV P 58 [.agg (rC r)] (.tup [.agg (rC (atR ((r.h+4) % 8) ((listR r).drop 4))),.sl true 1 (F.m iC ((listR r).take 4))]) [.undef] true:=by
 have k1:=r_rMay r true hr.symm
 rw [<- hP] at k1
 have k2:=q_rList hP hF r
 obtain ⟨h0,h1,-,-,-⟩:=(mayR_iff r).1 hr
 obtain ⟨a0,a1,a2,a3,a4,a5,a6,a7,e⟩:=eight_list hl
 rw [e] at k2 ⊢
 have k3:=c78 ((r.h+4) % 8) [a4,a5,a6,a7] (by omega) (by omega) (by simp)
 rw [show [a0,a1,a2,a3,a4,a5,a6,a7].drop 4=[a4,a5,a6,a7] from rfl,show [a0,a1,a2,a3,a4,a5,a6,a7].take 4=[a0,a1,a2,a3] from rfl,show F.m iC [a0,a1,a2,a3]=[[.int .i64 a0],[.int .i64 a1],[.int .i64 a2],[.int .i64 a3]] by rw [hF]; rfl]
 rw [show F.m iC [a0,a1,a2,a3,a4,a5,a6,a7]=[[.int .i64 a0],[.int .i64 a1],[.int .i64 a2],[.int .i64 a3],[.int .i64 a4],[.int .i64 a5],[.int .i64 a6],[.int .i64 a7]] by rw [hF]; rfl] at k2
 rw [<- hP] at k3
 obtain ⟨y,hy⟩ : ∃ y,y=atR ((r.h+4) % 8) [a4,a5,a6,a7]:=⟨_,rfl⟩
 rw [<- hy] at k3 ⊢
 clear hy e hl hr
 obtain ⟨b0,b1,b2,b3,b4,b5,b6,b7,h,m⟩:=r
 have hh:h=0\/h=1\/h=2\/h=3\/h=4\/h=5\/h=6\/h=7:=by have:0<=h:=h0; have:h < 8:=h1; omega
 clear h0 h1
 rcases hh with rfl|rfl|rfl|rfl|rfl|rfl|rfl|rfl
 all_goals
  refine callsV_f hD Try.func58 ok58 hP hF rfl fun R hQ=>?_
  repeat' (cbv; first|refine .y ?_|refine .n ?_|refine .s (fun hc=>?_) fun hc=>?_|refine .z k1 ?_|refine .z k2 ?_|refine .z k3 ?_|refine Lt.to (by decide) rfl ?_|refine Lt.to (by simp) rfl ?_|refine .v ?_|refine .r ?_|refine .e fun v hv=>?_|refine .a fun v hv=>?_|refine .d ?_|refine .fa ?_|refine .f1 ?_|refine .u fun vr vn hvr hvn hvl=>?_|fail)
  all_goals (try cbv)
  all_goals first
   |exact absurd (Eq.refl _) hc
   |(refine hQ _ ⟨?_,?_,?_,?_,?_⟩ <;> (try cbv) <;> (repeat' first|exact True.intro|exact rfl|assumption|exact lenU|exact frM|exact FrR.mk rfl|exact FrS.mk rfl|refine ⟨?_,?_⟩|(subst_vars; rfl)|fail))
theorem fit_ps {s:SD} (hs:Fit s) (p:Int) (x:PD) (hF:F=fs):Fit { s with ps:=F.u s.ps p x }:=⟨hs.prog,hs.code,hs.gs,by subst hF; simpa [fs] using hs.ps,hs.ms,hs.gl,hs.w0,hs.w1,hs.w2,hs.w3,hs.ts⟩
theorem fit_turn {s:SD} (hs:Fit s) (g st m:Int):Fit (turnS s g st m):=⟨hs.prog,hs.code,by simpa [turnS,setG] using hs.gs,hs.ps,hs.ms,hs.gl,hs.w0,hs.w1,hs.w2,hs.w3,hs.ts⟩
set_option maxHeartbeats 4000000 in
theorem d22t (hP:P=Try.prog) (hF:F=fs) (s t:SD) (hs:Fit s) (p g:Int) (h:In F s.ps p) (g1:1<=g) (hr:mayR (F.g s.ps p).r=true) (ht:t=layS s p g) :
  CallsV P 22 [.agg (stS F s),.int .i64 p,.int .i64 g] (.agg (stF F .o .o t)) [.undef,.undef,.undef] false:=by
 obtain ⟨x0,x1,x2,x3,hx,ex0,ex1,ex2,ex3⟩:=elP (F.g s.ps p)
 rw [<- ex2] at hr
 have h1:=h.lo
 have h2:=h.hi
 have h3:p<=1000000:=by rw [nP hF] at h2; have:=hs.ps; omega
 obtain ⟨k,hk⟩ : ∃ k,F.n s.ps=k:=⟨_,rfl⟩
 rw [hk] at h2
 have hx':getP s p=⟨x0,x1,x2,x3⟩:=by rw [<- hx,hF]; rfl
 have k1:=r_rMay x2 true hr.symm
 rw [<- hP] at k1
 unfold layS at ht
 dsimp only at ht
 rw [hx'] at ht
 by_cases hb:(listR x2).length < 8
 ·rw [if_pos hb] at ht
  have k2:=d57t hP hF x2 g hr hb g1
  obtain ⟨r,er⟩ : ∃ r,r=atR x2.h (listR x2 ++ [g]):=⟨_,rfl⟩
  rw [<- er] at k2
  have k3:=d49 hP hF s _ hs p ⟨x0,x1,r,x3⟩ h rfl
  clear hs
  refine callsV_f hD Try.func22 ok22x hP hF (by simp only [List.map_cons,List.map_nil,V.sh,sh_F hF,sh_O hF,sh_F' hF,sh_S hF]) fun R hQ=>?_
  repeat' (cbv; first|refine .y ?_|refine .n ?_|refine .s (fun hc=>?_) fun hc=>?_|refine .z k1 ?_|refine .z k2 ?_|refine .z k3 ?_|refine .v ?_|refine .r ?_|refine .e fun v hv=>?_|refine .a fun v hv=>?_|refine .d ?_|refine .fa ?_|refine .f1 ?_|refine .u fun vr vn hvr hvn hvl=>?_|fail)
  all_goals (try cbv)
  all_goals first
   |(exfalso; omega)
   |(refine hQ _ ⟨?_,?_,?_,?_,?_⟩ <;> (try cbv) <;> (repeat' first|exact True.intro|exact rfl|assumption|exact lenU|exact frM|exact FrR.mk rfl|exact FrS.mk rfl|refine ⟨?_,?_⟩|(subst_vars; rfl)|fail))
 ·have hb8:(listR x2).length=8:=by have:=listR_len x2; omega
  rw [if_neg hb] at ht
  have k2:=d57f hP hF x2 g hr hb8
  have k4:=d58 hP hF x2 hr hb8
  obtain ⟨r,er⟩ : ∃ r,r=atR ((x2.h+4) % 8) ((listR x2).drop 4):=⟨_,rfl⟩
  obtain ⟨hs',eh⟩ : ∃ hs,hs=(listR x2).take 4:=⟨_,rfl⟩
  rw [<- er,<- eh] at k4
  have k3:=d49 hP hF s _ hs p ⟨x0,x1,r,x3⟩ h rfl
  have hn:F.n hs'<=8:=by rw [hF,eh]; show ((List.length _:Nat):Int)<=_; rw [List.length_take]; omega
  have hg:F.n s.gl<=1000000:=by rw [nL hF]; have:=hs.gl; omega
  have fg:Few F s.gl:=⟨by omega⟩
  have fh:Few F hs':=⟨by omega⟩
  have ha:Few F (F.a s.gl hs'):=.app (by omega) (by omega)
  clear hs
  refine callsV_f hD Try.func22 ok22x hP hF (by simp only [List.map_cons,List.map_nil,V.sh,sh_F hF,sh_O hF,sh_F' hF,sh_S hF]) fun R hQ=>?_
  repeat' (cbv; first|refine .y ?_|refine .n ?_|refine .s (fun hc=>?_) fun hc=>?_|refine .z k1 ?_|refine .z k2 ?_|refine .z k3 ?_|refine .z k4 ?_|refine .v ?_|refine .r ?_|refine .e fun v hv=>?_|refine .a fun v hv=>?_|refine .d ?_|refine .fa ?_|refine .f1 ?_|refine .u fun vr vn hvr hvn hvl=>?_|fail)
  all_goals (try cbv)
  all_goals first
   |(exfalso; omega)
   |(refine hQ _ ⟨?_,?_,?_,?_,?_⟩ <;> (try cbv) <;> (repeat' first|exact True.intro|exact rfl|assumption|exact lenU|exact frM|exact FrR.mk rfl|exact FrS.mk rfl|refine ⟨?_,?_⟩|(subst_vars; rfl)|fail))
set_option maxHeartbeats 4000000 in
theorem d22f (hP:P=Try.prog) (hF:F=fs) (s:SD) (hs:Fit s) (p g:Int) (h:¬ (1<=p/\p.toNat<=s.ps.length/\1<=g/\mayR (getP s p).r=true)) :
  CallsV P 22 [.agg (stS F s),.int .i64 p,.int .i64 g] (.agg (stS F s)) [.undef,.undef,.undef] false:=by
 obtain ⟨k,hk⟩ : ∃ k,F.n s.ps=k:=⟨_,rfl⟩
 have hk':k=s.ps.length:=by rw [<- hk,nP hF]
 by_cases hc:1<=p/\p<=k/\1<=g
 ·obtain ⟨p1,p2,g1⟩:=hc
  have hi:In F s.ps p:=⟨p1,by rw [hk]; exact p2⟩
  obtain ⟨x0,x1,x2,x3,hx,ex0,ex1,ex2,ex3⟩:=elP (F.g s.ps p)
  have hr:mayR x2=false:=by
   rw [ex2,gP hF]
   cases e:mayR (getP s p).r with
   |true=>exact absurd (And.intro p1 (And.intro (by omega) (And.intro g1 e))) h
   |false=>rfl
  have k1:=r_rMay x2 false hr.symm
  rw [<- hP] at k1
  have p3:p<=1000000:=by have:=hs.ps; omega
  clear hs h hr hk'
  refine callsV_f hD Try.func22 ok22x hP hF (by simp only [List.map_cons,List.map_nil,V.sh,sh_F hF,sh_O hF,sh_F' hF,sh_S hF]) fun R hQ=>?_
  repeat' (cbv; first|refine .y ?_|refine .n ?_|refine .s (fun hc=>?_) fun hc=>?_|refine .z k1 ?_|refine .v ?_|refine .r ?_|refine .e fun v hv=>?_|refine .a fun v hv=>?_|refine .d ?_|refine .fa ?_|refine .f1 ?_|refine .u fun vr vn hvr hvn hvl=>?_|fail)
  all_goals (try cbv)
  all_goals first
   |(exfalso; omega)
   |(refine hQ _ ⟨?_,?_,?_,?_,?_⟩ <;> (try cbv) <;> (repeat' first|exact True.intro|exact rfl|assumption|exact lenU|exact frM|exact FrR.mk rfl|exact FrS.mk rfl|refine ⟨?_,?_⟩|(subst_vars; rfl)|fail))
 ·have hc':p < 1\/k < p\/g < 1:=by omega
  clear hs h hc hk'
  refine callsV_f hD Try.func22 ok22x hP hF (by simp only [List.map_cons,List.map_nil,V.sh,sh_F hF,sh_O hF,sh_F' hF,sh_S hF]) fun R hQ=>?_
  repeat' (cbv; first|refine .y ?_|refine .n ?_|refine .s (fun hc=>?_) fun hc=>?_|refine .v ?_|refine .r ?_|refine .e fun v hv=>?_|refine .a fun v hv=>?_|refine .d ?_|refine .fa ?_|refine .f1 ?_|refine .u fun vr vn hvr hvn hvl=>?_|fail)
  all_goals (try cbv)
  all_goals first
   |(exfalso; omega)
   |(refine hQ _ ⟨?_,?_,?_,?_,?_⟩ <;> (try cbv) <;> (repeat' first|exact True.intro|exact rfl|assumption|exact lenU|exact frM|exact FrR.mk rfl|exact FrS.mk rfl|refine ⟨?_,?_⟩|(subst_vars; rfl)|fail))
end Go.Ab

namespace Go.Ab
open Go Go.Proofs
set_option maxRecDepth 100000
variable {P:Program} {F:Fs}
structure WiI where
 i:Int
 rs:List (List V)
 n:Nat
theorem filter_next {l:List Int} {g x:Int} {i:Nat} (hx:l[i]?=some x):(l.take (i+1)).filter (fun y=>decide (y≠g))=(l.take i).filter (fun y=>decide (y≠g)) ++ if x=g then [] else [x]:=by
 obtain ⟨hl,rfl⟩:=List.getElem?_eq_some_iff.1 hx
 rw [List.take_succ_eq_append_getElem hl,List.filter_append]
 congr 1
 by_cases e:l[i]=g
 ·simp [e]
 ·simp [e]
set_option maxHeartbeats 2000000 in
theorem d94 (hP : P = Try.prog) (hF : F = fs) (l:List Int) (hl:l.length<=1000000) (g:Int) (r:List Int) (hr:r=l.filter fun y=>decide (y≠g)):CallsV P 94 [.sl false 1 (F.m iC l),.int .i64 g] (.own 1 (F.m iC r)) [.undef,.undef] true:=by
 obtain ⟨k,hk⟩ : ∃ k,F.n l=k:=⟨_,rfl⟩
 have hk' : 0 <= k /\ k.toNat = l.length := by
   have:k=(l.length:Nat):=by rw [<- hk,hF]; rfl
   omega
 have hk6:k<=1000000:=by omega
 refine callsV_f hD Try.func94 ok94 hP hF (by simp only [List.map_cons,List.map_nil,V.sh,sh_F hF,sh_O hF,sh_F' hF,sh_S hF,shM (hF:=hF)]) fun R hQ=>?_
 repeat' (cbv; first|refine .y ?_|refine .n ?_|refine .s (fun hc=>?_) fun hc=>?_|refine .v ?_|refine .r ?_|refine .e fun v hv=>?_|refine .a fun v hv=>?_|refine .d ?_|refine .fa ?_|refine .f1 ?_|refine .u fun vr vn hvr hvn hvl=>?_|fail)
 all_goals (try cbv)
 refine LoopQ.to (ι:=WiI) (fun p=>⟨tab .undef [(0,.sl false 1 (F.m iC l)),(1,.int .i64 g),(5,.sref 100 0 p.n),(6,.int .i64 p.i)],tab .dead [(100,.rows 1 p.rs)]⟩)
  (fun p=>0<=p.i/\p.i<=k/\p.rs=F.m iC ((l.take p.i.toNat).filter fun y=>decide (y≠g))/\p.n=F.l p.rs) (fun p=>(k - p.i).toNat) ⟨0,[],0⟩ ⟨by simp,by dsimp only; omega,by subst hF; rfl,by subst hF; rfl⟩ rfl fun ⟨i,rs,n⟩ ⟨i0,i1,hrs,hn⟩ A hA=>?_
 dsimp only at i0 i1 hrs hn ⊢
 obtain ⟨a,ha⟩ : ∃ a,a=(l.take i.toNat).filter fun y=>decide (y≠g):=⟨_,rfl⟩
 rw [<- ha] at hrs
 subst hrs hn
 have fa:Few F a:=⟨by
  have h1:a.length<=(l.take i.toNat).length:=by rw [ha]; exact List.length_filter_le _ _
  rw [List.length_take] at h1
  rw [hF]; show ((a.length:Nat):Int)<=_; omega⟩
 by_cases hi:i < k
 ·obtain ⟨x,hx⟩ : ∃ x,l[i.toNat]?=some x:=⟨_,List.getElem?_eq_getElem (by omega)⟩
  have hnx:=filter_next (g:=g) hx
  rw [<- ha] at hnx
  obtain ⟨v,hv⟩ : ∃ v,v=i+1:=⟨_,rfl⟩
  rw [show i.toNat+1=v.toNat by omega] at hnx
  by_cases hg:x=g
  ·rw [if_pos hg,List.append_nil] at hnx
   have hnx':F.m iC a=F.m iC ((l.take v.toNat).filter fun y=>decide (y≠g)):=by rw [hnx]
   clear hk' hl hr hnx ha
   repeat' (cbv; first|refine .y ?_|refine .n ?_|refine .s (fun hc=>?_) fun hc=>?_|refine .v ?_|refine .r ?_|refine .e fun v hv=>?_|refine .a fun v hv=>?_|refine .d ?_|refine .fa ?_|refine .f1 ?_|refine .u fun vr vn hvr hvn hvl=>?_|fail)
   all_goals (try cbv)
   all_goals first
    |exact hA ⟨v,F.m iC a,F.l (F.m iC a)⟩ _ ⟨by dsimp only; omega,by dsimp only; omega,hnx',rfl⟩ (by dsimp only; omega) (by cbv)
    |(exfalso; omega)
  ·rw [if_neg hg] at hnx
   have hnx':F.m iC (F.a a [x])=F.m iC ((l.take v.toNat).filter fun y=>decide (y≠g)):=by rw [hnx,hF]; rfl
   clear hk' hl hr hnx ha
   repeat' (cbv; first|refine .y ?_|refine .n ?_|refine .s (fun hc=>?_) fun hc=>?_|refine .v ?_|refine .r ?_|refine .e fun v hv=>?_|refine .a fun v hv=>?_|refine .d ?_|refine .fa ?_|refine .f1 ?_|refine .u fun vr vn hvr hvn hvl=>?_|fail)
   all_goals (try cbv)
   all_goals first
    |exact hA ⟨v,F.m iC (F.a a [x]),F.l (F.m iC (F.a a [x]))⟩ _ ⟨by dsimp only; omega,by dsimp only; omega,hnx',rfl⟩ (by dsimp only; omega) (by cbv)
    |(exfalso; omega)
 ·have e:a=r:=by rw [ha,hr,List.take_of_length_le (by omega)]
  subst e
  clear hA ha hr hk' hl
  repeat' (cbv; first|refine .y ?_|refine .n ?_|refine .s (fun hc=>?_) fun hc=>?_|refine .v ?_|refine .r ?_|refine .e fun v hv=>?_|refine .a fun v hv=>?_|refine .d ?_|refine .fa ?_|refine .f1 ?_|refine .u fun vr vn hvr hvn hvl=>?_|fail)
  all_goals (try cbv)
  all_goals first
   |(exfalso; omega)
   |(refine hQ _ ⟨?_,?_,?_,?_,?_⟩ <;> (try cbv) <;> (repeat' first|exact True.intro|exact rfl|assumption|exact lenU|exact frM|exact FrR.mk rfl|exact FrS.mk rfl|refine ⟨?_,?_⟩|(subst_vars; rfl)|fail))
end Go.Ab
