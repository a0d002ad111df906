/-
  ready: Gs laid behind an empty ring, one behind the other.
  The text of a law.
  law13: ReadySpill.
-/
import Derived.Test.YtkanpbjjabdalaaK9
import Derived.Test.YtkanpbjjabdalaaK34
set_option linter.all false
namespace Go.Ab
open Go
def oneP (r:RD) (gl:List Int):SD:=⟨[],[],[⟨0,0,r,0⟩],[],gl,0,0,0,0,[],[],[],[],[],0,0⟩
structure Spill (n:Nat) (r:RD) (gl:List Int):Prop where
 may:mayR r=true
 all:(gl ++ listR r).Perm (upTo n)
 few:n<=8->gl=[]/\listR r=upTo n
theorem upTo_succ (n:Nat):upTo (n+1)=upTo n ++ [(n:Int)+1]:=by
 unfold upTo; rw [List.range_succ,List.map_append]; rfl
theorem upTo_len (n:Nat):(upTo n).length=n:=by simp [upTo]
theorem spill_zero:Spill 0 zeroR []:=⟨zero_may.1,by rw [zero_may.2]; exact List.Perm.refl _,fun _=>⟨rfl,zero_may.2⟩⟩
theorem spill_step {n:Nat} {r:RD} {gl:List Int} (h:Spill n r gl):∃ r' gl',tailS (oneP r gl) 1 ((n:Int)+1)=oneP r' gl'/\Spill (n+1) r' gl':=by
 have hl:=listR_len r
 have hg:getP (oneP r gl) 1=⟨0,0,r,0⟩:=rfl
 have ht:tailS (oneP r gl) 1 ((n:Int)+1)=layS (oneP r gl) 1 ((n:Int)+1):=by
  unfold tailS
  rw [if_pos ⟨by omega,by show (1:Int).toNat<=1; decide,by omega,by rw [hg]; exact h.may⟩]
 obtain ⟨a,b⟩:=lay_ring h.may (show 1<=(n:Int)+1 by omega)
 rw [ht]
 unfold layS
 rw [hg]
 dsimp only
 by_cases h8:(listR r).length < 8
 ·rw [if_pos h8]
  obtain ⟨a1,a2⟩:=a h8
  refine ⟨_,gl,rfl,a1,?_,fun hn=>?_⟩
  ·rw [a2,<- List.append_assoc,upTo_succ]
   exact List.Perm.append_right _ h.all
  ·obtain ⟨f1,f2⟩:=h.few (by omega)
   exact ⟨f1,by rw [a2,f2,upTo_succ]⟩
 ·rw [if_neg h8]
  obtain ⟨b1,b2⟩:=b h8
  refine ⟨_,_,rfl,b1,?_,fun hn=>?_⟩
  ·rw [b2,upTo_succ]
   have h1:=h.all
   rw [<- List.take_append_drop 4 (listR r)] at h1
   refine List.Perm.trans ?_ (List.Perm.append_right _ h1)
   simp only [List.append_assoc]
   refine List.Perm.append_left _ (List.Perm.append_left _ ?_)
   exact List.perm_append_comm
  ·obtain ⟨f1,f2⟩:=h.few (by omega)
   rw [f2,upTo_len] at h8
   omega
theorem spill_times {n:Nat} {r:RD} {gl:List Int} (h:Spill n r gl) {x:Int} (h1:1<=x) (h2:x<=n):timesL (gl ++ listR r) x=1:=by
 unfold timesL
 rw [h.all.count_eq,(upTo_nodup n).count,if_pos (upTo_mem.2 ⟨h1,h2⟩)]; rfl
theorem spill_len {n:Nat} {r:RD} {gl:List Int} (h:Spill n r gl):(gl ++ listR r).length=n:=by
 rw [h.all.length_eq,upTo_len]
end Go.Ab

namespace Go.Ab
open Go Go.Proofs T
set_option maxRecDepth 1000000
def t6:FnT:=⟨1,[],[],[.t 2],S [g [0] [] [] [p 2 (B false)],S [g [0,17] [] [] [p 8 (.call 13 [] []),p 9 (v 8),p 10 (m 9),q 11 (m 0) 10,q 12 (c .lss 11 0) 10,p 13 (o 10 12),p 14 (m 13),q 15 (m 0) 14,q 16 (c .gtr 15 60) 14,p 17 (o 14 16)],.cond (.t 17) (S [g [2] [] [] [p 18 (.call 13 [] []),p 2 (m 18)],.ret]) (.skip)],g [0,3] [100] [100] [p 19 (.mks 13 104 [Z,Z,Z,Z,Z,Z,Z,Z,Z,Z,Z,Z,Z] (i 1) none),p 20 (.build [.nils 1,.nils 5,.nils 13,.nils 2,.nils 1,Z,Z,Z,Z,.nils 1,.nils 1,.nils 1,.nils 1,.nils 2,Z,Z] [(2,1,(.t 19))]),p 3 (.alloc [.nils 1,.nils 5,.nils 13,.nils 2,.nils 1,Z,Z,Z,Z,.nils 1,.nils 1,.nils 1,.nils 1,.nils 2,Z,Z] 100 []),u (s 16 3 20)],g [0,3,4] [100,111] [111] [p 21 (.bsl 1 [] (some 111)),p 4 (m 21)],S [g [0,3,4,5] [100,111] [] [p 5 (M 1)],.blk 0 (.loop [0,3,4,5] [100,111] (S [S [g [0,3,4,5,24] [100,111] [] [p 22 (m 5),p 23 (m 0),p 24 (b .leq 22 23)],.cond (.t 24) (.skip) (.exit 0)],.blk 1 (S [g [0,3,4,5] [100,111] [] [p 27 (L 16 3),p 28 (m 5),p 29 (.call 21 [r 27,.ro (i 1),r 28] []),u (s 16 3 29)],g [0,3,4,5] [100,111] [] [p 30 (m 4),p 31 (m 5),p 32 (.bsl 1 [(.t 31)] none),p 33 (.app 1 8 (.t 30) (.t 32) (some 111)),p 4 (m 33)]]),g [0,3,4,5] [100,111] [] [p 25 (m 5),p 26 (c .add 25 1),p 5 (m 26)]]))],S [g [0,3,4,37] [100,111] [] [p 34 (f 2 3),p 35 (l 34),p 36 (h 35),p 37 (c .neq 36 1)],.cond (.t 37) (S [g [2] [] [] [p 2 (B false)],.ret]) (.skip)],.fgt false [0,3,4,6] [100,111,112] (.regd [112] [(p 38 (.bsl 1 [] none),1),(p 39 (f 4 3),0),(p 40 (l 39),1),(p 41 (.app 1 8 (.t 38) (.t 40) (some 112)),1),(p 42 (f 2 3),0),(p 43 (l 42),1),(p 44 (y 13 43 0),1),(p 45 (f 2 44),0),(p 46 (L 10 45),1),(p 47 (.call 27 [r 46] []),1),(p 48 (.app 1 8 (.t 41) (.t 47) (some 112)),3),(p 6 (m 48),0)]),S [g [0,3,4,6,7] [100,111,112] [] [p 7 (M 1)],.blk 2 (.loop [0,3,4,6,7] [100,111,112] (S [S [g [0,3,4,6,7,51] [100,111,112] [] [p 49 (m 7),p 50 (m 0),p 51 (b .leq 49 50)],.cond (.t 51) (.skip) (.exit 2)],.blk 3 (S [g [0,3,4,6,7,57] [100,111,112] [] [p 54 (m 6),p 55 (m 7),p 56 (.call 28 [r 54,r 55] []),p 57 (c .neq 56 1)],.cond (.t 57) (S [g [2] [] [] [p 2 (B false)],.ret]) (.skip)]),g [0,3,4,6,7] [100,111,112] [] [p 52 (m 7),p 53 (c .add 52 1),p 7 (m 53)]]))],g [2] [] [] [p 58 (m 6),p 59 (h 58),p 60 (m 0),p 61 (b .eql 59 60),p 62 (m 61),w 63 (m 0) 62,w 64 (c .gtr 63 8) 62,w 65 (m 64) 62,q 66 (f 4 3) 65,q 67 (l 66) 65,q 68 (h 67) 65,q 69 (c .eql 68 0) 65,q 70 (m 69) 65,w 71 (m 6) 70,w 72 (m 4) 70,w 73 (.call 26 [r 71,r 72] []) 70,q 74 (n 70 73) 65,w 75 (o 65 74) 62,p 76 (n 62 75),p 77 (m 76),w 78 (f 2 3) 77,w 79 (l 78) 77,w 80 (y 13 79 0) 77,w 81 (f 2 80) 77,w 82 (f 9 81) 77,w 83 (l 82) 77,w 84 (c .leq 83 8) 77,p 85 (n 77 84),p 2 (m 85)],.ret]⟩
theorem ok6:okFn Try.prog Try.f6 t6=true:=by kernel_rfl
end Go.Ab

namespace Go.Ab
open Go Go.Proofs
set_option maxRecDepth 100000
variable {P:Program} {F:Fs}
structure SpI where
 c:Option SD
 i:Int
 rs:List (List V)
 n:Nat
def spC (F:Fs):Option SD->List V
 |none=>[.nils 1,.nils 5,.sl true 13 [[.int .i64 0,.int .i64 0,.int .i64 0,.int .i64 0,.int .i64 0,.int .i64 0,.int .i64 0,.int .i64 0,.int .i64 0,.int .i64 0,.int .i64 0,.int .i64 0,.int .i64 0]],.nils 2,.nils 1,.int .i64 0,.int .i64 0,.int .i64 0,.int .i64 0,.nils 1,.nils 1,.nils 1,.nils 1,.nils 2,.int .i64 0,.int .i64 0]
 |some t=>[.sl true 1 (F.m fC t.prog),.sl true 5 (F.m gC t.gs),.sl true 13 (F.m pC t.ps),.sl true 2 (F.m mC t.ms),.sl true 1 (F.m iC t.gl),.int .i64 t.c0,.int .i64 t.c1,.int .i64 t.c2,.int .i64 t.c3,.sl false 1 (F.m iC t.w0),.sl false 1 (F.m iC t.w1),.sl false 1 (F.m iC t.w2),.sl false 1 (F.m iC t.w3),.sl false 2 (F.m tC t.ts),.int .i64 t.ck,.int .i64 t.pr]
def spOk (n:Nat):Option SD->Prop
 |none=>n=0
 |some t=>∃ r gl,t=oneP r gl/\Spill n r gl
theorem one_fit {r:RD} {gl:List Int} (h:gl.length<=1000000):Fit (oneP r gl):=by
 constructor <;> simp [oneP]; exact h
theorem zero_shS (hF:F=fs):stS F (oneP zeroR [])=[.sl false 1 [],.sl false 5 [],.sl false 13 [[.int .i64 0,.int .i64 0,.int .i64 0,.int .i64 0,.int .i64 0,.int .i64 0,.int .i64 0,.int .i64 0,.int .i64 0,.int .i64 0,.int .i64 0,.int .i64 0,.int .i64 0]],.sl false 2 [],.sl false 1 [],.int .i64 0,.int .i64 0,.int .i64 0,.int .i64 0,.sl false 1 [],.sl false 1 [],.sl false 1 [],.sl false 1 [],.sl false 2 [],.int .i64 0,.int .i64 0]:=by
 subst hF; rfl
theorem upTo_next {i v:Int} (h:1<=i) (hv:v=i+1):upTo (v.toNat - 1)=upTo (i.toNat - 1) ++ [i]:=by
 have e:v.toNat - 1=(i.toNat - 1)+1:=by omega
 rw [e,upTo_succ]; congr 2; omega
set_option maxHeartbeats 8000000 in
theorem d6 (hP:P=Try.prog) (hF:F=fs) (n:Int):CallsV P 6 [.int .i64 n] (.bool true) [.undef] true:=by
 have kf:=d13 hP hF
 by_cases hc:0<=n/\n<=60
 ·obtain ⟨n0,n60⟩:=hc
  by_cases h0:n=0
  ·-- none is laid
   subst h0
   have kl:=q_rList hP hF zeroR
   rw [zero_may.2,show F.m iC ([]:List Int)=[] by subst hF; rfl] at kl
   have ki:=q_Ints hP hF [] [] (by simp) true (by simp)
   rw [show F.m iC ([]:List Int)=[] by subst hF; rfl] at ki
   refine callsV_f hD Try.func6 ok6 hP hF rfl fun R hQ=>?_
   repeat' (cbv; first|refine .y ?_|refine .n ?_|refine .s (fun hc=>?_) fun hc=>?_|refine .z kf ?_|refine .v ?_|refine .r ?_|refine .e fun v hv=>?_|refine .a fun v hv=>?_|refine .d ?_|refine .fa ?_|refine .f1 ?_|refine .u fun vr vn hvr hvn hvl=>?_|fail)
   all_goals (try cbv)
   refine LoopQ.to (ι:=Unit) (fun _=>⟨tab .undef [(0,.int .i64 0),(3,.ptr 100 0),(4,.sref 111 0 0),(5,.int .i64 1)],tab .dead [(100,.box (spC F none)),(111,.rows 1 [])]⟩)
    (fun _=>True) (fun _=>0) () trivial rfl fun _ _ A hA=>?_
   repeat' (cbv; first|refine .y ?_|refine .n ?_|refine .s (fun hc=>?_) fun hc=>?_|refine .z kl ?_|refine AppL.kn (rs':=[]) rfl rfl ?_|refine Lt.to (by decide) rfl ?_|refine .v ?_|refine .r ?_|refine .e fun v hv=>?_|refine .a fun v hv=>?_|refine .d ?_|refine .fa ?_|refine .f1 ?_|refine .u fun vr vn hvr hvn hvl=>?_|fail)
   all_goals (try cbv)
   all_goals first
    |exact absurd (Eq.refl _) hc
    |skip
   refine LoopQ.to (ι:=Unit) (fun _=>⟨tab .undef [(0,.int .i64 0),(3,.ptr 100 0),(4,.sref 111 0 0),(6,.sref 112 0 0),(7,.int .i64 1)],tab .dead [(100,.box (spC F none)),(111,.rows 1 []),(112,.rows 1 [])]⟩)
    (fun _=>True) (fun _=>0) () trivial rfl fun _ _ A hA=>?_
   repeat' (cbv; first|refine .y ?_|refine .n ?_|refine .s (fun hc=>?_) fun hc=>?_|refine .z ki ?_|refine Lt.to (by decide) rfl ?_|refine .v ?_|refine .r ?_|refine .e fun v hv=>?_|refine .a fun v hv=>?_|refine .d ?_|refine .fa ?_|refine .f1 ?_|refine .u fun vr vn hvr hvn hvl=>?_|fail)
   all_goals (try cbv)
   all_goals first
    |exact absurd (Eq.refl _) hc
    |skip
   (refine hQ _ ⟨?_,?_,?_,?_,?_⟩ <;> (try cbv) <;> (repeat' first|exact True.intro|exact rfl|assumption|exact lenU|exact frM|exact FrR.mk rfl|exact FrS.mk rfl|refine ⟨?_,?_⟩|(subst_vars; rfl)|fail))
  ·have kt0:=d21 hP hF (oneP zeroR []) _ (one_fit (by simp)) 1 1 rfl
   rw [zero_shS hF] at kt0
   obtain ⟨ra,la,et,sa⟩:=spill_step spill_zero
   rw [show ((0:Nat):Int)+1=1 from rfl] at et
   obtain ⟨ta,hta⟩ : ∃ t,t=tailS (oneP zeroR []) 1 1:=⟨_,rfl⟩
   rw [<- hta] at kt0 et
   have n1:1<=n:=by omega
   refine callsV_f hD Try.func6 ok6 hP hF rfl fun R hQ=>?_
   repeat' (cbv; first|refine .y ?_|refine .n ?_|refine .s (fun hc=>?_) fun hc=>?_|refine .z kf ?_|refine .v ?_|refine .r ?_|refine .e fun v hv=>?_|refine .a fun v hv=>?_|refine .d ?_|refine .fa ?_|refine .f1 ?_|refine .u fun vr vn hvr hvn hvl=>?_|fail)
   all_goals (try cbv)
   refine LoopQ.to (ι:=SpI) (fun p=>⟨tab .undef [(0,.int .i64 n),(3,.ptr 100 0),(4,.sref 111 0 p.n),(5,.int .i64 p.i)],tab .dead [(100,.box (spC F p.c)),(111,.rows 1 p.rs)]⟩)
    (fun p=>1<=p.i/\p.i<=n+1/\p.rs=F.m iC (upTo (p.i.toNat - 1))/\p.n=F.l p.rs/\spOk (p.i.toNat - 1) p.c) (fun p=>(n+1 - p.i).toNat) ⟨none,1,[],0⟩ ⟨by simp,by dsimp only; omega,by subst hF; rfl,by subst hF; rfl,rfl⟩ rfl fun ⟨c,i,rs,ln⟩ ⟨i1,i2,hrs,hln,hok⟩ A hA=>?_
   dsimp only at i1 i2 hrs hln hok ⊢
   obtain ⟨w,hw⟩ : ∃ w,w=upTo (i.toNat - 1):=⟨_,rfl⟩
   rw [<- hw] at hrs
   subst hrs hln
   have fw:Few F w:=⟨by rw [hF,hw]; show ((List.length (upTo _):Nat):Int)<=_; rw [upTo_len]; omega⟩
   have ew:∀ v:Int,v=i+1->F.m iC (F.a w [i])=F.m iC (upTo (v.toNat - 1)):=fun v hv=>by rw [upTo_next i1 hv,<- hw,hF]; rfl
   cases c with
   |none =>
    have hi:i=1:=by have:i.toNat - 1=0:=hok; omega
    subst hi
    have ew':=ew 2 rfl
    clear hok hw ew hta
    repeat' (cbv; first|refine .y ?_|refine .n ?_|refine .s (fun hc=>?_) fun hc=>?_|refine .z kt0 ?_|refine .v ?_|refine .r ?_|refine .e fun v hv=>?_|refine .a fun v hv=>?_|refine .d ?_|refine .fa ?_|refine .f1 ?_|refine .u fun vr vn hvr hvn hvl=>?_|fail)
    all_goals (try cbv)
    obtain rfl:v=2:=by omega
    exact hA ⟨some ta,2,F.m iC (F.a w [1]),F.l (F.m iC (F.a w [1]))⟩ _ ⟨by simp,by dsimp only; omega,ew',rfl,ra,la,et,sa⟩ (by dsimp only; omega) (by cbv)
   |some t =>
    obtain ⟨r,gl,ht,hS⟩:=hok
    have hlen:=spill_len hS
    rw [List.length_append] at hlen
    have ft:Fit t:=by rw [ht]; exact one_fit (by omega)
    by_cases hi:i<=n
    ·obtain ⟨rb,lb,et',sb⟩:=spill_step hS
     rw [show ((i.toNat - 1:Nat):Int)+1=i by omega,<- ht] at et'
     obtain ⟨tb,htb⟩ : ∃ b,b=tailS t 1 i:=⟨_,rfl⟩
     have kt:=d21 hP hF t tb ft 1 i htb
     rw [<- htb] at et'
     rw [show i.toNat - 1+1=(i+1).toNat - 1 by omega] at sb
     obtain ⟨v,hv⟩ : ∃ v,v=i+1:=⟨_,rfl⟩
     have ew':=ew v hv
     rw [<- hv] at sb
     clear ew hw ht hS hlen ft htb kt0 et sa hta
     repeat' (cbv; first|refine .y ?_|refine .n ?_|refine .s (fun hc=>?_) fun hc=>?_|refine .z kt ?_|refine .v ?_|refine .r ?_|refine .e fun v hv=>?_|refine .a fun v hv=>?_|refine .d ?_|refine .fa ?_|refine .f1 ?_|refine .u fun vr vn hvr hvn hvl=>?_|fail)
     all_goals (try cbv)
     exact hA ⟨some tb,v,F.m iC (F.a w [i]),F.l (F.m iC (F.a w [i]))⟩ _ ⟨by dsimp only; omega,by dsimp only; omega,ew',rfl,rb,lb,et',sb⟩ (by dsimp only; omega) (by cbv)
    ·have hin:i=n+1:=by omega
     have hS':Spill n.toNat r gl:=by rw [show n.toNat=i.toNat - 1 by omega]; exact hS
     have hw':w=upTo n.toNat:=by rw [hw]; congr 1; omega
     have hmay:=(mayR_iff r).1 hS'.may
     have hr8:r.n<=8:=hmay.2.2.2.1
     obtain ⟨b0,b1,b2,b3,b4,b5,b6,b7,h,m⟩:=r
     have hm8:m<=8:=hr8
     have kl:=q_rList hP hF ⟨b0,b1,b2,b3,b4,b5,b6,b7,h,m⟩
     have htm:=fun x (h1:1<=x) (h2:x<=(n.toNat:Int))=>spill_times hS' h1 h2
     have hfew:=hS'.few
     have hl':=spill_len hS'
     obtain ⟨l,hl⟩ : ∃ l,l=listR ⟨b0,b1,b2,b3,b4,b5,b6,b7,h,m⟩:=⟨_,rfl⟩
     rw [<- hl] at kl htm hfew hl'
     have hgl:t.gl=gl:=by rw [ht]; rfl
     rw [<- hgl] at htm hfew hl'
     have eF:F.a t.gl l=t.gl ++ l:=by rw [hF]; rfl
     have na:F.n t.ps=1:=by rw [nP hF,ht]; rfl
     have hx:t.ps[(0:Int).toNat]?=some ⟨0,0,⟨b0,b1,b2,b3,b4,b5,b6,b7,h,m⟩,0⟩:=by rw [ht]; rfl
     have ktm:∀ x:Int,1<=x->x<=n->CallsV P 28 [.sl false 1 (F.m iC (F.a t.gl l)),.int .i64 x] (.int .i64 1) [.undef,.undef] true:=fun x h1 h2 =>
      q_Times hP hF _ (by rw [eF,hl']; omega) x 1 (by rw [eF]; exact (htm x h1 (by omega)).symm)
     have nal:F.n (F.a t.gl l)=n:=by rw [hF]; show ((List.length (t.gl ++ l):Nat):Int)=n; rw [hl']; omega
     rw [List.length_append] at hl'
     have fgl:Few F t.gl:=⟨by rw [nL hF]; omega⟩
     have fl:Few F l:=⟨by rw [hF]; show ((l.length:Nat):Int)<=_; omega⟩
     obtain ⟨k,hk⟩ : ∃ k,F.n t.gl=k:=⟨_,rfl⟩
     have hkk:n<=8->k=0:=fun h8=>by rw [<- hk,nL hF,(hfew (by omega)).1]; rfl
     have ki:n<=8->CallsV P 26 [.sl false 1 (F.m iC (F.a t.gl l)),.sl false 1 (F.m iC w)] (.bool true) [.undef,.undef] true:=fun h8 =>
      q_Ints hP hF _ _ (by rw [eF,List.length_append]; omega) true ⟨fun _=>by rw [eF,(hfew (by omega)).1,(hfew (by omega)).2,hw']; rfl,fun _=>rfl⟩
     clear ew hw hw' ht hS hS' hlen ft kt0 et sa hta hA hmay hr8 htm hfew hl' hl hgl eF i1 i2
     repeat' (cbv; first|refine .y ?_|refine .n ?_|refine .s (fun hc=>?_) fun hc=>?_|refine .z kl ?_|refine AppL.f0 ?_|refine .v ?_|refine .r ?_|refine .e fun v hv=>?_|refine .a fun v hv=>?_|refine .d ?_|refine .fa ?_|refine .f1 ?_|refine .u fun vr vn hvr hvn hvl=>?_|fail)
     all_goals (try cbv)
     refine LoopQ.to (ι:=Int) (fun j=>⟨tab .undef [(0,.int .i64 n),(3,.ptr 100 0),(4,.sref 111 0 (F.l (F.m iC w))),(6,.sref 112 0 (F.l (F.m iC (F.a t.gl l)))),(7,.int .i64 j)],tab .dead [(100,.box (spC F (some t))),(111,.rows 1 (F.m iC w)),(112,.rows 1 (F.m iC (F.a t.gl l)))]⟩)
      (fun j=>1<=j/\j<=n+1) (fun j=>(n+1 - j).toNat) 1 ⟨by omega,by omega⟩ rfl fun j ⟨j1,j2⟩ A hA=>?_
     by_cases hj:j<=n
     ·have kt:=ktm j j1 hj
      clear ktm ki hkk
      obtain ⟨v,hv⟩ : ∃ v,v=j+1:=⟨_,rfl⟩
      repeat' (cbv; first|refine .y ?_|refine .n ?_|refine .s (fun hc=>?_) fun hc=>?_|refine .z kt ?_|refine .v ?_|refine .r ?_|refine .e fun v hv=>?_|refine .a fun v hv=>?_|refine .d ?_|refine .fa ?_|refine .f1 ?_|refine .u fun vr vn hvr hvn hvl=>?_|fail)
      all_goals (try cbv)
      exact hA v _ ⟨by omega,by omega⟩ (by omega) (by cbv)
     ·clear ktm hA
      by_cases h8:n<=8
      ·have ki:=ki h8
       have hkk:=hkk h8
       repeat' (cbv; first|refine .y ?_|refine .n ?_|refine .s (fun hc=>?_) fun hc=>?_|refine .z ki ?_|refine .v ?_|refine .r ?_|refine .e fun v hv=>?_|refine .a fun v hv=>?_|refine .d ?_|refine .fa ?_|refine .f1 ?_|refine .u fun vr vn hvr hvn hvl=>?_|fail)
       all_goals (try cbv)
       (refine hQ _ ⟨?_,?_,?_,?_,?_⟩ <;> (try cbv) <;> (repeat' first|exact True.intro|exact rfl|assumption|exact lenU|exact frM|exact FrR.mk rfl|exact FrS.mk rfl|refine ⟨?_,?_⟩|(subst_vars; rfl)|fail))
      ·clear ki hkk
       repeat' (cbv; first|refine .y ?_|refine .n ?_|refine .s (fun hc=>?_) fun hc=>?_|refine .v ?_|refine .r ?_|refine .e fun v hv=>?_|refine .a fun v hv=>?_|refine .d ?_|refine .fa ?_|refine .f1 ?_|refine .u fun vr vn hvr hvn hvl=>?_|fail)
       all_goals (try cbv)
       (refine hQ _ ⟨?_,?_,?_,?_,?_⟩ <;> (try cbv) <;> (repeat' first|exact True.intro|exact rfl|assumption|exact lenU|exact frM|exact FrR.mk rfl|exact FrS.mk rfl|refine ⟨?_,?_⟩|(subst_vars; rfl)|fail))
 ·have hc':n < 0\/60 < n:=by omega
  refine callsV_f hD Try.func6 ok6 hP hF rfl fun R hQ=>?_
  repeat' (cbv; first|refine .y ?_|refine .n ?_|refine .s (fun hc=>?_) fun hc=>?_|refine .z kf ?_|refine .v ?_|refine .r ?_|refine .e fun v hv=>?_|refine .a fun v hv=>?_|refine .d ?_|refine .fa ?_|refine .f1 ?_|refine .u fun vr vn hvr hvn hvl=>?_|fail)
  all_goals (try cbv)
  all_goals first
   |(exfalso; omega)
   |(refine hQ _ ⟨?_,?_,?_,?_,?_⟩ <;> (try cbv) <;> (repeat' first|exact True.intro|exact rfl|assumption|exact lenU|exact frM|exact FrR.mk rfl|exact FrS.mk rfl|refine ⟨?_,?_⟩|(subst_vars; rfl)|fail))
end Go.Ab
