/-
  The document's answers: small ones, programs, timers.
  The document's answers: are two things the same? timers.
-/
import Derived.Test.YtkanpbjjabdalaaK11
set_option linter.all false
namespace Go.Ab
open Go Go.Proofs
set_option maxRecDepth 100000
theorem c60 (n:Int) (b:Bool) (hb:b=decide (0<=n/\n < 2305843009213693952)):CallsV Try.prog 60 [.int .i64 n] (.bool b) [.undef] true:=by
 refine callsV_q hD Try.func60 ok60 rfl rfl rfl fun P Q hP hQ=>?_
 repeat' (cbv; first|refine .y ?_|refine .n ?_|refine .s (fun hc=>?_) fun hc=>?_|refine .a fun v hv=>?_|refine .d ?_|refine .u fun vr vn hvr hvn hvl=>?_|fail)
 all_goals (try cbv)
 ·have hbe:b=true:=by rw [hb]; exact decide_eq_true (by omega)
  subst hbe; refine hQ _ ?_; exact ⟨rfl,rfl,rfl,rfl,rfl⟩
 ·have hbe:b=false:=by rw [hb]; exact decide_eq_false (by omega)
  subst hbe; refine hQ _ ?_; exact ⟨rfl,rfl,rfl,rfl,rfl⟩
 ·have hbe:b=false:=by rw [hb]; exact decide_eq_false (by omega)
  subst hbe; refine hQ _ ?_; exact ⟨rfl,rfl,rfl,rfl,rfl⟩
theorem c100 (n:Int) (b:Bool) (hb:b=decide (0<=n/\n < 4611686018427387904)):CallsV Try.prog 100 [.int .i64 n] (.bool b) [.undef] true:=by
 refine callsV_q hD Try.func100 ok100 rfl rfl rfl fun P Q hP hQ=>?_
 repeat' (cbv; first|refine .y ?_|refine .n ?_|refine .s (fun hc=>?_) fun hc=>?_|refine .a fun v hv=>?_|refine .d ?_|refine .u fun vr vn hvr hvn hvl=>?_|fail)
 all_goals (try cbv)
 ·have hbe:b=true:=by rw [hb]; exact decide_eq_true (by omega)
  subst hbe; refine hQ _ ?_; exact ⟨rfl,rfl,rfl,rfl,rfl⟩
 ·have hbe:b=false:=by rw [hb]; exact decide_eq_false (by omega)
  subst hbe; refine hQ _ ?_; exact ⟨rfl,rfl,rfl,rfl,rfl⟩
 ·have hbe:b=false:=by rw [hb]; exact decide_eq_false (by omega)
  subst hbe; refine hQ _ ?_; exact ⟨rfl,rfl,rfl,rfl,rfl⟩
def aheadP (x y:TD):Prop:=x.t < y.t\/(x.t=y.t/\x.g < y.g)
instance (x y:TD):Decidable (aheadP x y):=by unfold aheadP; infer_instance
theorem c101 (x y:TD) (b:Bool) (hb:b=decide (aheadP x y)):CallsV Try.prog 101 [.agg (tC x),.agg (tC y)] (.bool b) [.undef,.undef] true:=by
 obtain ⟨xt,xg⟩:=x
 obtain ⟨yt,yg⟩:=y
 refine callsV_q hD Try.func101 ok101 rfl rfl rfl fun P Q hP hQ=>?_
 simp only [aheadP] at hb
 repeat' (cbv; first|refine .y ?_|refine .n ?_|refine .s (fun hc=>?_) fun hc=>?_|refine .a fun v hv=>?_|refine .d ?_|refine .u fun vr vn hvr hvn hvl=>?_|fail)
 all_goals (try cbv)
 all_goals first
  |(
    have hbe:b=true:=by rw [hb]; exact decide_eq_true (by omega)
    subst hbe; (refine hQ _ ?_; exact ⟨rfl,rfl,rfl,rfl,rfl⟩))
  |(
    have hbe:b=false:=by rw [hb]; exact decide_eq_false (by omega)
    subst hbe; (refine hQ _ ?_; exact ⟨rfl,rfl,rfl,rfl,rfl⟩))
def mostI (n d:Int):Int:=if d=1 then n - 1 else if d=3\/d=4 then 3 else if d=6 then 1000 else 0
theorem c99 (p:List (List ID)) (hp:p.length<=1000000) (d z:Int) (hz:z=mostI p.length d):CallsV Try.prog 99 [.sl false 1 (p.map fC),.int .i64 d] (.int .i64 z) [.undef,.undef] true:=by
 obtain ⟨ra,ha⟩ : ∃ r,r=p.map fC:=⟨_,rfl⟩
 have sa:=shR_fC p
 have la:ra.length=p.length:=by simp [ha]
 obtain ⟨n,hn⟩ : ∃ n:Int,0<=n/\n.toNat=p.length:=⟨p.length,by omega,by omega⟩
 rw [show (p.length:Int)=n by omega] at hz
 rw [<- ha] at sa ⊢
 refine callsV_q hD Try.func99 ok99 rfl rfl (by simp only [List.map_cons,List.map_nil,V.sh,sa]) fun P Q hP hQ=>?_
 repeat' (cbv; first|refine .y ?_|refine .n ?_|refine .s (fun hc=>?_) fun hc=>?_|refine .a fun v hv=>?_|refine .d ?_|refine .u fun vr vn hvr hvn hvl=>?_|fail)
 all_goals (try cbv)
 all_goals
  unfold mostI at hz
  repeat' split at hz
  all_goals first
   |(exfalso; omega)
   |(subst hz; (refine hQ _ ?_; exact ⟨rfl,rfl,rfl,rfl,rfl⟩))
   |(
     have hbe:z=v:=(by omega)
     subst hbe; (refine hQ _ ?_; exact ⟨rfl,rfl,rfl,rfl,rfl⟩))
def okI (n:Int) (x:ID):Bool:=decide (0<=x.d/\x.d<=6/\0<=x.a/\x.a<=mostI n x.d)
def mayP (p:List (List ID)):Bool:=decide (1<=p.length/\p.length<=8)&&p.all fun f=>decide (f.length<=20)&&f.all (okI p.length)
set_option maxHeartbeats 1000000 in
theorem c59 (p : List (List ID)) (hp:p.length<=1000000) (hf:∀ f∈p,f.length<=1000000) (b:Bool) (hb:b=mayP p):CallsV Try.prog 59 [.sl false 1 (p.map fC)] (.bool b) [.undef] true:=by
 obtain ⟨ra,ha⟩ : ∃ r,r=p.map fC:=⟨_,rfl⟩
 have sa:=shR_fC p
 have la:ra.length=p.length:=by simp [ha]
 have cm:=fun d=>c99 p hp d
 rw [<- ha] at sa cm ⊢
 refine callsV_q hD Try.func59 ok59 rfl rfl (by simp only [List.map_cons,List.map_nil,V.sh,sa]) fun P Q hP hQ=>?_
 unfold mayP at hb
 repeat' (cbv; first|refine .y ?_|refine .n ?_|refine .s (fun hc=>?_) fun hc=>?_|refine .a fun v hv=>?_|refine .d ?_|refine .u fun vr vn hvr hvn hvl=>?_|fail)
 all_goals (try cbv)
 ·have hbe:b=false:=by rw [hb,decide_eq_false (by omega)]; rfl
  subst hbe; refine hQ _ ?_; exact ⟨rfl,rfl,rfl,rfl,rfl⟩
 ·have hbe:b=false:=by rw [hb,decide_eq_false (by omega)]; rfl
  subst hbe; refine hQ _ ?_; exact ⟨rfl,rfl,rfl,rfl,rfl⟩
 ·rw [decide_eq_true (by omega),Bool.true_and] at hb
  refine LoopQ.to (ι:=Int) (fun i=>⟨tab .undef [(0,.sl false 1 ra),(3,.int .i64 i)],tab .dead []⟩)
   (fun i=>0<=i/\i.toNat<=p.length/\b=(p.drop i.toNat).all fun f=>decide (f.length<=20)&&f.all (okI p.length)) (fun i=>p.length - i.toNat) 0 ⟨by omega,by omega,hb⟩ rfl fun i ⟨i0,i1,hi⟩ A hA=>?_
  rcases drop_cases i1 with ⟨e,hd⟩|⟨hlt,f,hd,hx⟩
  ·rw [hd] at hi
   repeat' (cbv; first|refine .y ?_|refine .n ?_|refine .s (fun hc=>?_) fun hc=>?_|refine .a fun v hv=>?_|refine .d ?_|refine .u fun vr vn hvr hvn hvl=>?_|fail)
   all_goals (try cbv)
   have hbe:b=true:=by rw [hi]; rfl
   subst hbe; refine hQ _ ?_; exact ⟨rfl,rfl,rfl,rfl,rfl⟩
  ·rw [hd,List.all_cons] at hi
   have ga:=getD_rows ha hx
   have lf:=hf f (mem_of_get hx)
   obtain ⟨rf,hrf⟩ : ∃ r,r=f.map jC:=⟨_,rfl⟩
   have lrf:rf.length=f.length:=by simp [hrf]
   have ga':ra.getD i.toNat []=[.sl false 2 rf]:=by rw [ga,hrf]; rfl
   repeat' (cbv; first|refine .y ?_|refine .n ?_|refine .s (fun hc=>?_) fun hc=>?_|refine .row ga' ?_|refine .a fun v hv=>?_|refine .d ?_|refine .u fun vr vn hvr hvn hvl=>?_|fail)
   all_goals (try cbv)
   ·have hbe:b=false:=by rw [hi,decide_eq_false (by omega)]; rfl
    subst hbe; refine hQ _ ?_; exact ⟨rfl,rfl,rfl,rfl,rfl⟩
   ·rw [decide_eq_true (by omega),Bool.true_and] at hi
    refine LoopQ.to (ι:=Int) (fun k=>⟨tab .undef [(0,.sl false 1 ra),(3,.int .i64 i),(4,.int .i64 k)],tab .dead []⟩)
     (fun k=>0<=k/\k.toNat<=f.length/\b=((f.drop k.toNat).all (okI p.length)&&(p.drop (i.toNat+1)).all fun f=>decide (f.length<=20)&&f.all (okI p.length))) (fun k=>f.length - k.toNat) 0 ⟨by omega,by omega,hi⟩ rfl fun k ⟨k0,k1,hk⟩ B hB=>?_
    rcases drop_cases k1 with ⟨e,hd'⟩|⟨hlt',x,hd',hx'⟩
    ·rw [hd',List.all_nil,Bool.true_and] at hk
     repeat' (cbv; first|refine .y ?_|refine .n ?_|refine .s (fun hc=>?_) fun hc=>?_|refine .row ga' ?_|refine .a fun v hv=>?_|refine .d ?_|refine .u fun vr vn hvr hvn hvl=>?_|fail)
     all_goals (try cbv)
     exact hA _ _ ⟨by omega,by omega,by rw [hk]; congr 2; omega⟩ (by omega) rfl
    ·rw [hd',List.all_cons] at hk
     have gf:=getD_rows hrf hx'
     obtain ⟨xd,xa⟩:=x
     obtain ⟨z,hz⟩ : ∃ z,z=mostI p.length xd:=⟨_,rfl⟩
     have cz:=cm xd z hz
     have hok:okI p.length ⟨xd,xa⟩=decide (0<=xd/\xd<=6/\0<=xa/\xa<=z):=by rw [hz]; rfl
     rw [hok] at hk
     try rw [<- hP] at cz
     repeat' (cbv; first|refine .y ?_|refine .n ?_|refine .s (fun hc=>?_) fun hc=>?_|refine .row ga' ?_|refine .row gf ?_|(refine id (α:=CallQ P _ _ _ _ _ _) ?_; first|refine CallQ.to cz rfl (.inl rfl) ?_ ⟨sa,True.intro⟩)|refine .a fun v hv=>?_|refine .d ?_|refine .u fun vr vn hvr hvn hvl=>?_|fail)
     all_goals (try cbv)
     all_goals first
      |(
        have hbe:b=false:=by rw [hk,decide_eq_false (by omega)]; rfl
        subst hbe; (refine hQ _ ?_; exact ⟨rfl,rfl,rfl,rfl,rfl⟩))
      |(
        rw [decide_eq_true (by omega),Bool.true_and] at hk
        exact hB _ _ ⟨by omega,by omega,by rw [hk]; congr 3; omega⟩ (by omega) rfl)
end Go.Ab

namespace Go.Ab
open Go Go.Proofs
set_option maxRecDepth 100000
theorem Lt.wr' {z v:Int} {K:Int->Prop} (h:-9223372036854775808<=z) (h':z < 9223372036854775808) (hv:v=z) (k:K v):Lt (fun _=>True) (fun _=>IntKind.i64.wrap z) K:=by
 subst hv
 exact .wr h h' fun w hw=>hw ▸ k
theorem same_cons {α:Type} [DecidableEq α] {x y:α} {l m:List α}:decide (x::l=y::m)=(decide (x=y)&&decide (l=m)):=by
 by_cases h:x=y <;> by_cases h':l=m <;> simp [h,h']
theorem c51 (a b:List GD) (la:a.length<=1000000) (t:Bool) (ht:t=decide (a=b)):CallsV Try.prog 51 [.sl false 5 (a.map gC),.sl false 5 (b.map gC)] (.bool t) [.undef,.undef] true:=by
 obtain ⟨ra,h_ra⟩ : ∃ r,r=a.map gC:=⟨_,rfl⟩
 have s_ra:V.shR ra=ra:=by rw [h_ra]; exact shR_gC a
 have l_ra:ra.length=a.length:=by simp [h_ra]
 obtain ⟨rb,h_rb⟩ : ∃ r,r=b.map gC:=⟨_,rfl⟩
 have s_rb:V.shR rb=rb:=by rw [h_rb]; exact shR_gC b
 have l_rb:rb.length=b.length:=by simp [h_rb]
 rw [<- h_ra,<- h_rb]
 refine callsV_q hD Try.func51 ok51 rfl rfl (by simp only [List.map_cons,List.map_nil,V.sh,V.shL,stL,s_ra,s_rb]) fun P Q hP hQ=>?_
 repeat' (cbv; first|refine .y ?_|refine .n ?_|refine .s (fun hc=>?_) fun hc=>?_|refine .a fun v hv=>?_|refine .d ?_|refine .u fun vr vn hvr hvn hvl=>?_|fail)
 all_goals (try cbv)
 ·have hl:a.length=b.length:=by omega
  refine LoopQ.to (ι:=Int) (fun i=>⟨tab .undef [(0,.sl false 5 ra),(1,.sl false 5 rb),(5,.int .i64 i)],tab .dead []⟩)
   (fun i=>0<=i/\i.toNat<=a.length/\t=decide (a.drop i.toNat=b.drop i.toNat)) (fun i=>a.length - i.toNat) 0 ⟨by omega,by omega,ht⟩ rfl fun i ⟨i0,i1,hi⟩ A hA=>?_
  rcases drop_cases i1 with ⟨e,hd⟩|⟨hlt,x,hd,hx⟩
  ·rw [hd,List.drop_eq_nil_of_le (by omega)] at hi
   repeat' (cbv; first|refine .y ?_|refine .n ?_|refine .s (fun hc=>?_) fun hc=>?_|refine .a fun v hv=>?_|refine .d ?_|refine .u fun vr vn hvr hvn hvl=>?_|fail)
   all_goals (try cbv)
   have hbe:t=true:=by rw [hi]; rfl
   subst hbe; (refine hQ _ ?_; exact ⟨rfl,rfl,rfl,rfl,rfl⟩)
  ·obtain ⟨_,y,hd',hy⟩:=(drop_cases (l:=b) (i:=i.toNat) (by omega)).resolve_left (by omega)
   rw [hd,hd',same_cons] at hi
   have ga:=getD_rows h_ra hx
   have gb:=getD_rows h_rb hy
   obtain ⟨x0,x1,x2,x3,x4⟩:=x
   obtain ⟨y0,y1,y2,y3,y4⟩:=y
   repeat' (cbv; first|refine .y ?_|refine .n ?_|refine .s (fun hc=>?_) fun hc=>?_|refine .row ga ?_|refine .row gb ?_|refine .a fun v hv=>?_|refine .d ?_|refine .u fun vr vn hvr hvn hvl=>?_|fail)
   all_goals (try cbv)
   ·simp only [eqsP,and_true] at hc
    rw [decide_eq_true (by simp only [GD.mk.injEq]; omega),Bool.true_and] at hi
    exact hA _ _ ⟨by omega,by omega,by rw [hi,show v.toNat=i.toNat+1 by omega]⟩ (by omega) rfl
   ·simp only [eqsP,and_true] at hc
    have hbe:t=false:=by rw [hi,decide_eq_false (by simp only [GD.mk.injEq]; omega)]; rfl
    subst hbe; (refine hQ _ ?_; exact ⟨rfl,rfl,rfl,rfl,rfl⟩)
 ·have hbe:t=false:=by rw [ht]; exact decide_eq_false fun e=>by subst e; omega
  subst hbe; (refine hQ _ ?_; exact ⟨rfl,rfl,rfl,rfl,rfl⟩)
theorem c53 (a b:List TD) (la:a.length<=1000000) (t:Bool) (ht:t=decide (a=b)):CallsV Try.prog 53 [.sl false 2 (a.map tC),.sl false 2 (b.map tC)] (.bool t) [.undef,.undef] true:=by
 obtain ⟨ra,h_ra⟩ : ∃ r,r=a.map tC:=⟨_,rfl⟩
 have s_ra:V.shR ra=ra:=by rw [h_ra]; exact shR_tC a
 have l_ra:ra.length=a.length:=by simp [h_ra]
 obtain ⟨rb,h_rb⟩ : ∃ r,r=b.map tC:=⟨_,rfl⟩
 have s_rb:V.shR rb=rb:=by rw [h_rb]; exact shR_tC b
 have l_rb:rb.length=b.length:=by simp [h_rb]
 rw [<- h_ra,<- h_rb]
 refine callsV_q hD Try.func53 ok53 rfl rfl (by simp only [List.map_cons,List.map_nil,V.sh,V.shL,stL,s_ra,s_rb]) fun P Q hP hQ=>?_
 repeat' (cbv; first|refine .y ?_|refine .n ?_|refine .s (fun hc=>?_) fun hc=>?_|refine .a fun v hv=>?_|refine .d ?_|refine .u fun vr vn hvr hvn hvl=>?_|fail)
 all_goals (try cbv)
 ·have hl:a.length=b.length:=by omega
  refine LoopQ.to (ι:=Int) (fun i=>⟨tab .undef [(0,.sl false 2 ra),(1,.sl false 2 rb),(5,.int .i64 i)],tab .dead []⟩)
   (fun i=>0<=i/\i.toNat<=a.length/\t=decide (a.drop i.toNat=b.drop i.toNat)) (fun i=>a.length - i.toNat) 0 ⟨by omega,by omega,ht⟩ rfl fun i ⟨i0,i1,hi⟩ A hA=>?_
  rcases drop_cases i1 with ⟨e,hd⟩|⟨hlt,x,hd,hx⟩
  ·rw [hd,List.drop_eq_nil_of_le (by omega)] at hi
   repeat' (cbv; first|refine .y ?_|refine .n ?_|refine .s (fun hc=>?_) fun hc=>?_|refine .a fun v hv=>?_|refine .d ?_|refine .u fun vr vn hvr hvn hvl=>?_|fail)
   all_goals (try cbv)
   have hbe:t=true:=by rw [hi]; rfl
   subst hbe; (refine hQ _ ?_; exact ⟨rfl,rfl,rfl,rfl,rfl⟩)
  ·obtain ⟨_,y,hd',hy⟩:=(drop_cases (l:=b) (i:=i.toNat) (by omega)).resolve_left (by omega)
   rw [hd,hd',same_cons] at hi
   have ga:=getD_rows h_ra hx
   have gb:=getD_rows h_rb hy
   obtain ⟨x0,x1⟩:=x
   obtain ⟨y0,y1⟩:=y
   repeat' (cbv; first|refine .y ?_|refine .n ?_|refine .s (fun hc=>?_) fun hc=>?_|refine .row ga ?_|refine .row gb ?_|refine .a fun v hv=>?_|refine .d ?_|refine .u fun vr vn hvr hvn hvl=>?_|fail)
   all_goals (try cbv)
   ·simp only [eqsP,and_true] at hc
    rw [decide_eq_true (by simp only [TD.mk.injEq]; omega),Bool.true_and] at hi
    exact hA _ _ ⟨by omega,by omega,by rw [hi,show v.toNat=i.toNat+1 by omega]⟩ (by omega) rfl
   ·simp only [eqsP,and_true] at hc
    have hbe:t=false:=by rw [hi,decide_eq_false (by simp only [TD.mk.injEq]; omega)]; rfl
    subst hbe; (refine hQ _ ?_; exact ⟨rfl,rfl,rfl,rfl,rfl⟩)
 ·have hbe:t=false:=by rw [ht]; exact decide_eq_false fun e=>by subst e; omega
  subst hbe; (refine hQ _ ?_; exact ⟨rfl,rfl,rfl,rfl,rfl⟩)
set_option maxHeartbeats 1000000 in
theorem c50 (a b:List (List ID)) (la:a.length<=1000000) (lf:∀ f∈a,f.length<=1000000) (t:Bool) (ht:t=decide (a=b)):CallsV Try.prog 50 [.sl false 1 (a.map fC),.sl false 1 (b.map fC)] (.bool t) [.undef,.undef] true:=by
 obtain ⟨ra,h_ra⟩ : ∃ r,r=a.map fC:=⟨_,rfl⟩
 have s_ra:V.shR ra=ra:=by rw [h_ra]; exact shR_fC a
 have l_ra:ra.length=a.length:=by simp [h_ra]
 obtain ⟨rb,h_rb⟩ : ∃ r,r=b.map fC:=⟨_,rfl⟩
 have s_rb:V.shR rb=rb:=by rw [h_rb]; exact shR_fC b
 have l_rb:rb.length=b.length:=by simp [h_rb]
 rw [<- h_ra,<- h_rb]
 refine callsV_q hD Try.func50 ok50 rfl rfl (by simp only [List.map_cons,List.map_nil,V.sh,V.shL,stL,s_ra,s_rb]) fun P Q hP hQ=>?_
 repeat' (cbv; first|refine .y ?_|refine .n ?_|refine .s (fun hc=>?_) fun hc=>?_|refine .a fun v hv=>?_|refine .d ?_|refine .u fun vr vn hvr hvn hvl=>?_|fail)
 all_goals (try cbv)
 ·have hl : a.length=b.length:=by omega
  refine LoopQ.to (ι:=Int) (fun i=>⟨tab .undef [(0,.sl false 1 ra),(1,.sl false 1 rb),(5,.int .i64 i)],tab .dead []⟩)
   (fun i=>0<=i/\i.toNat<=a.length/\t=decide (a.drop i.toNat=b.drop i.toNat)) (fun i=>a.length - i.toNat) 0 ⟨by omega,by omega,ht⟩ rfl fun i ⟨i0,i1,hi⟩ A hA=>?_
  rcases drop_cases i1 with ⟨e,hd⟩|⟨hlt,f,hd,hx⟩
  ·rw [hd,List.drop_eq_nil_of_le (by omega)] at hi
   repeat' (cbv; first|refine .y ?_|refine .n ?_|refine .s (fun hc=>?_) fun hc=>?_|refine .a fun v hv=>?_|refine .d ?_|refine .u fun vr vn hvr hvn hvl=>?_|fail)
   all_goals (try cbv)
   have hbe:t=true:=by rw [hi]; rfl
   subst hbe; (refine hQ _ ?_; exact ⟨rfl,rfl,rfl,rfl,rfl⟩)
  ·obtain ⟨_,g,hd',hy⟩:=(drop_cases (l:=b) (i:=i.toNat) (by omega)).resolve_left (by omega)
   rw [hd,hd',same_cons] at hi
   have lf':=lf f (mem_of_get hx)
   obtain ⟨rf,h_rf⟩ : ∃ r,r=f.map jC:=⟨_,rfl⟩
   have s_rf:V.shR rf=rf:=by rw [h_rf]; exact shR_jC f
   have l_rf:rf.length=f.length:=by simp [h_rf]
   obtain ⟨rg,h_rg⟩ : ∃ r,r=g.map jC:=⟨_,rfl⟩
   have s_rg:V.shR rg=rg:=by rw [h_rg]; exact shR_jC g
   have l_rg:rg.length=g.length:=by simp [h_rg]
   have ga:ra.getD i.toNat []=[.sl false 2 rf]:=by rw [getD_rows h_ra hx,h_rf]; rfl
   have gb:rb.getD i.toNat []=[.sl false 2 rg]:=by rw [getD_rows h_rb hy,h_rg]; rfl
   repeat' (cbv; first|refine .y ?_|refine .n ?_|refine .s (fun hc=>?_) fun hc=>?_|refine .row ga ?_|refine .row gb ?_|refine .a fun v hv=>?_|refine .d ?_|refine .u fun vr vn hvr hvn hvl=>?_|fail)
   all_goals (try cbv)
   ·have hl':f.length=g.length:=by omega
    obtain ⟨T,hT⟩ : ∃ T,T=decide (a.drop (i.toNat+1)=b.drop (i.toNat+1)):=⟨_,rfl⟩
    rw [<- hT] at hi
    refine LoopQ.to (ι:=Int) (fun k=>⟨tab .undef [(0,.sl false 1 ra),(1,.sl false 1 rb),(5,.int .i64 i),(6,.int .i64 k)],tab .dead []⟩)
     (fun k=>0<=k/\k.toNat<=f.length/\t=(decide (f.drop k.toNat=g.drop k.toNat)&&T)) (fun k=>f.length - k.toNat) 0 ⟨by omega,by omega,hi⟩ rfl fun k ⟨k0,k1,hk⟩ B hB=>?_
    rcases drop_cases k1 with ⟨e,hd⟩|⟨hlt,x,hd,hx⟩
    ·rw [hd,List.drop_eq_nil_of_le (by omega),decide_eq_true rfl,Bool.true_and] at hk
     repeat' (cbv; first|refine .y ?_|refine .n ?_|refine .s (fun hc=>?_) fun hc=>?_|refine .row ga ?_|refine .a fun v hv=>?_|refine .d ?_|refine .u fun vr vn hvr hvn hvl=>?_|fail)
     all_goals (try cbv)
     exact hA _ _ ⟨by omega,by omega,by rw [hk,hT,show v.toNat=i.toNat+1 by omega]⟩ (by omega) rfl
    ·obtain ⟨_,y,hd',hy⟩:=(drop_cases (l:=g) (i:=k.toNat) (by omega)).resolve_left (by omega)
     rw [hd,hd',same_cons] at hk
     have gx:=getD_rows h_rf hx
     have gy:=getD_rows h_rg hy
     obtain ⟨x0,x1⟩:=x
     obtain ⟨y0,y1⟩:=y
     repeat' (cbv; first|refine .y ?_|refine .n ?_|refine .s (fun hc=>?_) fun hc=>?_|refine .row ga ?_|refine .row gb ?_|refine .row gx ?_|refine .row gy ?_|refine .a fun v hv=>?_|refine .d ?_|refine .u fun vr vn hvr hvn hvl=>?_|fail)
     all_goals (try cbv)
     ·simp only [eqsP,and_true] at hc
      rw [decide_eq_true (by simp only [ID.mk.injEq]; omega),Bool.true_and] at hk
      exact hB _ _ ⟨by omega,by omega,by rw [hk,show v.toNat=k.toNat+1 by omega]⟩ (by omega) rfl
     ·simp only [eqsP,and_true] at hc
      have hbe:t=false:=by rw [hk,decide_eq_false (by simp only [ID.mk.injEq]; omega)]; rfl
      subst hbe; (refine hQ _ ?_; exact ⟨rfl,rfl,rfl,rfl,rfl⟩)
   ·have hbe:t=false:=by rw [hi,decide_eq_false fun e=>by subst e; omega]; rfl
    subst hbe; (refine hQ _ ?_; exact ⟨rfl,rfl,rfl,rfl,rfl⟩)
 ·have hbe:t=false:=by rw [ht]; exact decide_eq_false fun e=>by subst e; omega
  subst hbe; (refine hQ _ ?_; exact ⟨rfl,rfl,rfl,rfl,rfl⟩)
def smallPr (p:List (List ID)):Bool:=p.all (fun f=>decide (f.length<=30))&&decide (p.length<=12)
theorem c34 (p:List (List ID)) (hp:p.length<=140737488355328) (b:Bool) (hb:b=smallPr p):CallsV Try.prog 34 [.sl false 1 (p.map fC)] (.bool b) [.undef] true:=by
 obtain ⟨ra,h_ra⟩ : ∃ r,r=p.map fC:=⟨_,rfl⟩
 have s_ra:V.shR ra=ra:=by rw [h_ra]; exact shR_fC p
 have l_ra:ra.length=p.length:=by simp [h_ra]
 rw [<- h_ra]
 refine callsV_q hD Try.func34 ok34 rfl rfl (by simp only [List.map_cons,List.map_nil,V.sh,V.shL,stL,s_ra]) fun P Q hP hQ=>?_
 unfold smallPr at hb
 repeat' (cbv; first|refine .y ?_|refine .n ?_|refine .s (fun hc=>?_) fun hc=>?_|refine .a fun v hv=>?_|refine .d ?_|refine .u fun vr vn hvr hvn hvl=>?_|fail)
 all_goals (try cbv)
 refine LoopQ.to (ι:=Int) (fun i=>⟨tab .undef [(0,.sl false 1 ra),(3,.int .i64 i)],tab .dead []⟩)
  (fun i=>0<=i/\i.toNat<=p.length/\b=((p.drop i.toNat).all (fun f=>decide (f.length<=30))&&decide (p.length<=12))) (fun i=>p.length - i.toNat) 0 ⟨by omega,by omega,hb⟩ rfl fun i ⟨i0,i1,hi⟩ A hA=>?_
 rcases drop_cases i1 with ⟨e,hd⟩|⟨hlt,f,hd,hx⟩
 ·rw [hd,List.all_nil,Bool.true_and] at hi
  repeat' (cbv; first|refine .y ?_|refine .n ?_|refine .s (fun hc=>?_) fun hc=>?_|refine .a fun v hv=>?_|refine .d ?_|refine .u fun vr vn hvr hvn hvl=>?_|fail)
  all_goals (try cbv)
  ·have hbe:b=true:=by rw [hi]; exact decide_eq_true (by omega)
   subst hbe; refine hQ _ ?_; exact ⟨rfl,rfl,rfl,rfl,rfl⟩
  ·have hbe:b=false:=by rw [hi]; exact decide_eq_false (by omega)
   subst hbe; refine hQ _ ?_; exact ⟨rfl,rfl,rfl,rfl,rfl⟩
 ·rw [hd,List.all_cons] at hi
  obtain ⟨rf,h_rf⟩ : ∃ r,r=f.map jC:=⟨_,rfl⟩
  have s_rf:V.shR rf=rf:=by rw [h_rf]; exact shR_jC f
  have l_rf:rf.length=f.length:=by simp [h_rf]
  have ga:ra.getD i.toNat []=[.sl false 2 rf]:=by rw [getD_rows h_ra hx,h_rf]; rfl
  repeat' (cbv; first|refine .y ?_|refine .n ?_|refine .s (fun hc=>?_) fun hc=>?_|refine .row ga ?_|refine .a fun v hv=>?_|refine .d ?_|refine .u fun vr vn hvr hvn hvl=>?_|fail)
  all_goals (try cbv)
  ·have hbe:b=false:=by rw [hi,decide_eq_false (by omega)]; rfl
   subst hbe; refine hQ _ ?_; exact ⟨rfl,rfl,rfl,rfl,rfl⟩
  ·rw [decide_eq_true (by omega),Bool.true_and] at hi
   exact hA _ _ ⟨by omega,by omega,by rw [hi,show v.toNat=i.toNat+1 by omega]⟩ (by omega) rfl
def okT (x:TD):Bool:=decide (0<=x.t/\x.t < 4611686018427387904/\1<=x.g)
def mayT:List TD->List TD->Bool
 |_,[]=>true
 |pre,x::l=>okT x&&(match pre.getLast? with|none=>true|some y=>decide (aheadP y x))&&pre.all (fun y=>decide (y.g≠x.g))&&mayT (pre ++ [x]) l
set_option maxHeartbeats 1000000 in
theorem c61 (l:List TD) (hl:l.length<=1000000) (b:Bool) (hb:b=mayT [] l):CallsV Try.prog 61 [.sl false 2 (l.map tC)] (.bool b) [.undef] true:=by
 obtain ⟨ra,h_ra⟩ : ∃ r,r=l.map tC:=⟨_,rfl⟩
 have s_ra:V.shR ra=ra:=by rw [h_ra]; exact shR_tC l
 have l_ra:ra.length=l.length:=by simp [h_ra]
 rw [<- h_ra]
 refine callsV_q hD Try.func61 ok61 rfl rfl (by simp only [List.map_cons,List.map_nil,V.sh,V.shL,stL,s_ra]) fun P Q hP hQ=>?_
 repeat' (cbv; first|refine .y ?_|refine .n ?_|refine .s (fun hc=>?_) fun hc=>?_|refine .a fun v hv=>?_|refine .d ?_|refine .u fun vr vn hvr hvn hvl=>?_|fail)
 all_goals (try cbv)
 refine LoopQ.to (ι:=Int) (fun i=>⟨tab .undef [(0,.sl false 2 ra),(3,.int .i64 i)],tab .dead []⟩)
  (fun i=>0<=i/\i.toNat<=l.length/\b=mayT (l.take i.toNat) (l.drop i.toNat)) (fun i=>l.length - i.toNat) 0 ⟨by omega,by omega,hb⟩ rfl fun i ⟨i0,i1,hi⟩ A hA=>?_
 rcases drop_cases i1 with ⟨e,hd⟩|⟨hlt,x,hd,hx⟩
 ·rw [hd] at hi
  repeat' (cbv; first|refine .y ?_|refine .n ?_|refine .s (fun hc=>?_) fun hc=>?_|refine .a fun v hv=>?_|refine .d ?_|refine .u fun vr vn hvr hvn hvl=>?_|fail)
  all_goals (try cbv)
  have hbe:b=true:=by rw [hi]; rfl
  subst hbe; refine hQ _ ?_; exact ⟨rfl,rfl,rfl,rfl,rfl⟩
 ·rw [hd, mayT] at hi
  have ga:=getD_rows h_ra hx
  obtain ⟨xt,xg⟩:=x
  obtain ⟨b1,hb1⟩ : ∃ b1,b1=decide (0<=xt/\xt < 4611686018427387904):=⟨_,rfl⟩
  have c1:=c100 xt b1 hb1
  have hok:okT ⟨xt,xg⟩=(b1&&decide (1<=xg)):=by
   rw [hb1]; unfold okT
   by_cases h1:0<=xt/\xt < 4611686018427387904 <;> by_cases h2:1<=xg <;> simp [h1,h2]
   (try exact fun h3 h4=>h1 ⟨h3,h4⟩)
  rw [hok] at hi
  cases b1 with
  |false =>
   try rw [<- hP] at c1
   repeat' (cbv; first|refine .y ?_|refine .n ?_|refine .s (fun hc=>?_) fun hc=>?_|refine .row ga ?_|refine .gq c1 ?_|refine .a fun v hv=>?_|refine .d ?_|refine .u fun vr vn hvr hvn hvl=>?_|fail)
   all_goals (try cbv)
   have hbe:b=false:=by rw [hi]; rfl
   subst hbe; refine hQ _ ?_; exact ⟨rfl,rfl,rfl,rfl,rfl⟩
  |true =>
   rw [Bool.true_and] at hi
   by_cases hg:1<=xg
   ·rw [decide_eq_true hg,Bool.true_and] at hi
    obtain ⟨T,hT⟩ : ∃ T,T=mayT (l.take i.toNat ++ [⟨xt,xg⟩]) (l.drop (i.toNat+1)):=⟨_,rfl⟩
    rw [<- hT] at hi
    obtain ⟨pre,hpre⟩ : ∃ pre,pre=l.take i.toNat:=⟨_,rfl⟩
    rw [<- hpre] at hi hT
    have lpre:pre.length=i.toNat:=by rw [hpre]; simp; omega
    rcases (show i=0\/0 < i by omega) with e0|hpos
    ·subst e0
     have:pre=[]:=List.eq_nil_of_length_eq_zero lpre
     subst this
     simp only [List.getLast?_nil,List.all_nil,Bool.true_and] at hi
     have hat1:2=2/\(0:Int)<=0/\(0:Int).toNat < ra.length:=⟨rfl,by omega,by omega⟩
     try rw [<- hP] at c1
     repeat' (cbv; first|refine .y ?_|refine .n ?_|refine .s (fun hc=>?_) fun hc=>?_|refine Lt.to hat1 ga ?_|refine .gq c1 ?_|refine .a fun v hv=>?_|refine .d ?_|refine .u fun vr vn hvr hvn hvl=>?_|fail)
     all_goals (try cbv)
     refine LoopQ.to (ι:=Unit) (fun _=>⟨tab .undef [(0,.sl false 2 ra),(3,.int .i64 0),(4,.int .i64 0)],tab .dead []⟩) (fun _=>True) (fun _=>0) () trivial rfl fun _ _ B hB=>?_
     repeat' (cbv; first|refine .y ?_|refine .n ?_|refine .s (fun hc=>?_) fun hc=>?_|refine .a fun v hv=>?_|refine .d ?_|refine .u fun vr vn hvr hvn hvl=>?_|fail)
     all_goals (try cbv)
     exact hA _ _ ⟨by omega,by omega,by
      rw [hi,hT,hv,show (0+1:Int).toNat=(0:Int).toNat+1 by omega,take_succ_of hx]; rfl⟩ (by omega) rfl
    ·have hlt1:i.toNat - 1 < l.length:=by omega
     obtain ⟨y,hy⟩ : ∃ y,l[i.toNat - 1]?=some y:=⟨_,List.getElem?_eq_getElem hlt1⟩
     have hlast:pre.getLast?=some y:=by
      rw [List.getLast?_eq_getElem?,hpre,List.getElem?_take,if_pos (by simp; omega)]
      rw [show (l.take i.toNat).length - 1=i.toNat - 1 by simp; omega]; exact hy
     rw [hlast] at hi
     simp only at hi
     have gy:=getD_rows h_ra hy
     obtain ⟨yt,yg⟩:=y
     obtain ⟨b2,hb2⟩ : ∃ b2,b2=decide (aheadP ⟨yt,yg⟩ ⟨xt,xg⟩):=⟨_,rfl⟩
     have c2:=c101 ⟨yt,yg⟩ ⟨xt,xg⟩ b2 hb2
     rw [<- hb2] at hi
     obtain ⟨z,hz⟩ : ∃ z,z=i - 1:=⟨_,rfl⟩
     rw [show i.toNat - 1=z.toNat by omega] at gy
     cases b2 with
     |false =>
      try rw [<- hP] at c1
      try rw [<- hP] at c2
      repeat' (cbv; first|refine .y ?_|refine .n ?_|refine .s (fun hc=>?_) fun hc=>?_|refine .row ga ?_|refine .wn hz ?_|refine .row gy ?_|refine .gq c1 ?_|refine .gq c2 ?_|refine .a fun v hv=>?_|refine .d ?_|refine .u fun vr vn hvr hvn hvl=>?_|fail)
      all_goals (try cbv)
      have hbe:b=false:=by rw [hi]; rfl
      subst hbe; refine hQ _ ?_; exact ⟨rfl,rfl,rfl,rfl,rfl⟩
     |true =>
      rw [Bool.true_and] at hi
      try rw [<- hP] at c1
      try rw [<- hP] at c2
      repeat' (cbv; first|refine .y ?_|refine .n ?_|refine .s (fun hc=>?_) fun hc=>?_|refine .row ga ?_|refine .wn hz ?_|refine .row gy ?_|refine .gq c1 ?_|refine .gq c2 ?_|refine .a fun v hv=>?_|refine .d ?_|refine .u fun vr vn hvr hvn hvl=>?_|fail)
      all_goals (try cbv)
      refine LoopQ.to (ι:=Int) (fun k=>⟨tab .undef [(0,.sl false 2 ra),(3,.int .i64 i),(4,.int .i64 k)],tab .dead []⟩)
       (fun k=>0<=k/\k.toNat<=pre.length/\b=((pre.drop k.toNat).all (fun y=>decide (y.g≠xg))&&T)) (fun k=>pre.length - k.toNat) 0 ⟨by omega,by omega,hi⟩ rfl fun k ⟨k0,k1,hk⟩ B hB=>?_
      rcases drop_cases k1 with ⟨e,hd'⟩|⟨hlt',w,hd',hw⟩
      ·rw [hd',List.all_nil,Bool.true_and] at hk
       repeat' (cbv; first|refine .y ?_|refine .n ?_|refine .s (fun hc=>?_) fun hc=>?_|refine .a fun v hv=>?_|refine .d ?_|refine .u fun vr vn hvr hvn hvl=>?_|fail)
       all_goals (try cbv)
       exact hA _ _ ⟨by omega,by omega,by
        rw [hk,hT,show v.toNat=i.toNat+1 by omega,take_succ_of hx,hpre]⟩ (by omega) rfl
      ·rw [hd',List.all_cons] at hk
       have hw':l[k.toNat]?=some w:=by
        rw [hpre,List.getElem?_take] at hw
        split at hw
        ·exact hw
        ·cases hw
       have gw:=getD_rows h_ra hw'
       obtain ⟨wt,wg⟩:=w
       repeat' (cbv; first|refine .y ?_|refine .n ?_|refine .s (fun hc=>?_) fun hc=>?_|refine .row ga ?_|refine .row gw ?_|refine .a fun v hv=>?_|refine .d ?_|refine .u fun vr vn hvr hvn hvl=>?_|fail)
       all_goals (try cbv)
       ·have hbe:b=false:=by rw [hk,decide_eq_false (fun hne=>hne (by omega))]; rfl
        subst hbe; refine hQ _ ?_; exact ⟨rfl,rfl,rfl,rfl,rfl⟩
       ·rw [decide_eq_true (by omega),Bool.true_and] at hk
        exact hB _ _ ⟨by omega,by omega,by rw [hk,show v.toNat=k.toNat+1 by omega]⟩ (by omega) rfl
   ·rw [decide_eq_false hg,Bool.false_and,Bool.false_and,Bool.false_and] at hi
    try rw [<- hP] at c1
    repeat' (cbv; first|refine .y ?_|refine .n ?_|refine .s (fun hc=>?_) fun hc=>?_|refine .row ga ?_|refine .gq c1 ?_|refine .a fun v hv=>?_|refine .d ?_|refine .u fun vr vn hvr hvn hvl=>?_|fail)
    all_goals (try cbv)
    have hbe:b=false:=by rw [hi]
    subst hbe; refine hQ _ ?_; exact ⟨rfl,rfl,rfl,rfl,rfl⟩
end Go.Ab
