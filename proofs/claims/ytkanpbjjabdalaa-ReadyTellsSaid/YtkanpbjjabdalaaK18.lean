/-
  The program's programs and timers: may they be?
  The program's timers: may they be?
-/
import Derived.Test.YtkanpbjjabdalaaK9
import Derived.Test.YtkanpbjjabdalaaK12
import Derived.Test.YtkanpbjjabdalaaK17
set_option linter.all false
namespace Go.Ab
open Go Go.Proofs
set_option maxRecDepth 100000
theorem r_sh1 (p:List (List ID)) (hp:p.length<=1000000) (z:Int) (hz:z=(p.length:Int) - 1):CallsV Try.prog 120 [.sl false 1 (p.map fC)] (.int .i64 z) [.undef] true:=by
 obtain ⟨n,hn⟩ : ∃ n:Int,0<=n/\n.toNat=p.length:=⟨p.length,by omega,by omega⟩
 rw [show (p.length:Int)=n by omega] at hz
 obtain ⟨ra,h_ra⟩ : ∃ r,r=p.map fC:=⟨_,rfl⟩
 have s_ra:V.shR ra=ra:=by rw [h_ra]; exact shR_fC p
 have l_ra:ra.length=p.length:=by simp [h_ra]
 rw [<- h_ra]
 refine callsV_q hD Try.func120 ok120 rfl rfl (by simp only [List.map_cons,List.map_nil,V.sh,V.shL,stL,s_ra]) fun P Q hP hQ=>?_
 repeat' (cbv; first|refine .y ?_|refine .n ?_|refine .s (fun hc=>?_) fun hc=>?_|refine .a fun v hv=>?_|refine .d ?_|refine .u fun vr vn hvr hvn hvl=>?_|fail)
 all_goals (try cbv)
 have hbe:z=v:=by omega
 subst hbe
 (refine hQ _ ?_; exact ⟨rfl,rfl,rfl,rfl,rfl⟩)
theorem r_sh2 (p:List (List ID)):CallsV Try.prog 121 [.sl false 1 (p.map fC)] (.int .i64 3) [.undef] true:=by
 obtain ⟨ra,h_ra⟩ : ∃ r,r=p.map fC:=⟨_,rfl⟩
 have s_ra:V.shR ra=ra:=by rw [h_ra]; exact shR_fC p
 have l_ra:ra.length=p.length:=by simp [h_ra]
 rw [<- h_ra]
 refine callsV_q hD Try.func121 ok121 rfl rfl (by simp only [List.map_cons,List.map_nil,V.sh,V.shL,stL,s_ra]) fun P Q hP hQ=>?_
 repeat' (cbv; first|refine .y ?_|refine .n ?_|refine .s (fun hc=>?_) fun hc=>?_|refine .a fun v hv=>?_|refine .d ?_|refine .u fun vr vn hvr hvn hvl=>?_|fail)
 all_goals (try cbv)
 (refine hQ _ ?_; exact ⟨rfl,rfl,rfl,rfl,rfl⟩)
theorem r_sh3 (p:List (List ID)):CallsV Try.prog 122 [.sl false 1 (p.map fC)] (.int .i64 1000) [.undef] true:=by
 obtain ⟨ra,h_ra⟩ : ∃ r,r=p.map fC:=⟨_,rfl⟩
 have s_ra:V.shR ra=ra:=by rw [h_ra]; exact shR_fC p
 have l_ra:ra.length=p.length:=by simp [h_ra]
 rw [<- h_ra]
 refine callsV_q hD Try.func122 ok122 rfl rfl (by simp only [List.map_cons,List.map_nil,V.sh,V.shL,stL,s_ra]) fun P Q hP hQ=>?_
 repeat' (cbv; first|refine .y ?_|refine .n ?_|refine .s (fun hc=>?_) fun hc=>?_|refine .a fun v hv=>?_|refine .d ?_|refine .u fun vr vn hvr hvn hvl=>?_|fail)
 all_goals (try cbv)
 (refine hQ _ ?_; exact ⟨rfl,rfl,rfl,rfl,rfl⟩)
theorem r_sh4 (p:List (List ID)):CallsV Try.prog 123 [.sl false 1 (p.map fC)] (.int .i64 0) [.undef] true:=by
 obtain ⟨ra,h_ra⟩ : ∃ r,r=p.map fC:=⟨_,rfl⟩
 have s_ra:V.shR ra=ra:=by rw [h_ra]; exact shR_fC p
 have l_ra:ra.length=p.length:=by simp [h_ra]
 rw [<- h_ra]
 refine callsV_q hD Try.func123 ok123 rfl rfl (by simp only [List.map_cons,List.map_nil,V.sh,V.shL,stL,s_ra]) fun P Q hP hQ=>?_
 repeat' (cbv; first|refine .y ?_|refine .n ?_|refine .s (fun hc=>?_) fun hc=>?_|refine .a fun v hv=>?_|refine .d ?_|refine .u fun vr vn hvr hvn hvl=>?_|fail)
 all_goals (try cbv)
 (refine hQ _ ?_; exact ⟨rfl,rfl,rfl,rfl,rfl⟩)
def shapesL:List V :=
 [.str ⟨#[119,111,114,107]⟩,.bool false,.fn 123 [] [],.str ⟨#[115,112,97,119,110]⟩,.bool true,.fn 120 [] [],.str ⟨#[121,105,101,108,100]⟩,.bool false,.fn 123 [] [],
  .str ⟨#[97,99,113,117,105,114,101]⟩,.bool true,.fn 121 [] [],.str ⟨#[114,101,108,101,97,115,101]⟩,.bool true,.fn 121 [] [],.str ⟨#[115,121,115]⟩,.bool false,.fn 123 [] [],
  .str ⟨#[115,108,101,101,112]⟩,.bool true,.fn 122 [] []]
theorem r_shapes:CallsV Try.prog 115 [] (.agg shapesL) [] true:=by
 refine callsV_q hD Try.func115 ok115 rfl rfl rfl fun P Q hP hQ=>?_
 repeat' (cbv; first|refine .y ?_|refine .n ?_|refine .s (fun hc=>?_) fun hc=>?_|refine .a fun v hv=>?_|refine .d ?_|refine .u fun vr vn hvr hvn hvl=>?_|fail)
 all_goals (try cbv)
 (refine hQ _ ?_; exact ⟨rfl,rfl,rfl,rfl,rfl⟩)
theorem can_sh1:callable Try.prog 120=true:=by kernel_rfl
theorem can_sh2:callable Try.prog 121=true:=by kernel_rfl
theorem can_sh3:callable Try.prog 122=true:=by kernel_rfl
theorem can_sh4:callable Try.prog 123=true:=by kernel_rfl
set_option maxHeartbeats 8000000 in
theorem c106 (p : List (List ID)) (hp:p.length<=1000000) (hf:∀ f∈p,f.length<=1000000) (b:Bool) (hb:b=mayP p):CallsV Try.prog 106 [.sl false 1 (p.map fC)] (.bool b) [.undef] true:=by
 obtain ⟨n,hn⟩ : ∃ n:Int,0<=n/\n.toNat=p.length:=⟨p.length,by omega,by omega⟩
 have hnc:(p.length:Int)=n:=by omega
 obtain ⟨z,hz⟩ : ∃ z:Int,z=n - 1:=⟨_,rfl⟩
 have k1:=r_sh1 p hp z (by rw [hnc,hz])
 have k2:=r_sh2 p
 have k3:=r_sh3 p
 have k4:=r_sh4 p
 obtain ⟨ra,h_ra⟩ : ∃ r,r=p.map fC:=⟨_,rfl⟩
 have s_ra:V.shR ra=ra:=by rw [h_ra]; exact shR_fC p
 have l_ra:ra.length=p.length:=by simp [h_ra]
 rw [<- h_ra] at k1 k2 k3 k4 ⊢
 refine callsV_q hD Try.func106 ok106 rfl rfl (by simp only [List.map_cons,List.map_nil,V.sh,V.shL,stL,s_ra]) fun P Q hP hQ=>?_
 unfold mayP at hb
 rw [hnc] at hb
 have hmz:0<=n/\n.toNat=ra.length:=⟨hn.1,by omega⟩
 by_cases hl:1<=p.length/\p.length<=8
 ·rw [decide_eq_true hl,Bool.true_and] at hb
  repeat' (cbv; first|refine .y ?_|refine .n ?_|refine .s (fun hc=>?_) fun hc=>?_|refine Lt.to True.intro (show (ra.length:Int)=n by omega) ?_|refine .gq (hP ▸ r_shapes) ?_|refine .a fun v hv=>?_|refine .d ?_|refine .u fun vr vn hvr hvn hvl=>?_|fail)
  all_goals (try cbv)
  refine LoopQ.to (ι:=Int) (fun i=>⟨tab .undef [(0,.sl false 1 ra),(3,.ptr 100 0),(17,.sl false 1 ra),(18,.int .i64 n),(19,.int .i64 i)],tab .dead [(100,.box shapesL)]⟩)
   (fun i=>0<=i/\i.toNat<=p.length/\b=(p.drop i.toNat).all fun f=>decide (f.length<=20)&&f.all (okI n)) (fun i=>p.length - i.toNat) 0 ⟨by omega,by omega,hb⟩ rfl fun i ⟨i0,i1,hi⟩ A hA=>?_
  clear hb
  rcases drop_cases i1 with ⟨e,hd⟩|⟨hlt,f,hd,hx⟩
  ·rw [hd] at hi
   repeat' (cbv; first|refine .y ?_|refine .n ?_|refine .s (fun hc=>?_) fun hc=>?_|refine .a fun v hv=>?_|refine .d ?_|refine .u fun vr vn hvr hvn hvl=>?_|fail)
   all_goals (try cbv)
   have hbe:b=true:=by rw [hi]; rfl
   subst hbe; refine hQ _ ?_; exact ⟨rfl,rfl,rfl,rfl,rfl⟩
  ·rw [hd, List.all_cons] at hi
   have ga:=getD_rows h_ra hx
   have lf:=hf f (mem_of_get hx)
   obtain ⟨rf,h_rf⟩ : ∃ r,r=f.map jC:=⟨_,rfl⟩
   have s_rf:V.shR rf=rf:=by rw [h_rf]; exact shR_jC f
   have l_rf:rf.length=f.length:=by simp [h_rf]
   have ga':ra.getD i.toNat []=[.sl false 2 rf]:=by rw [ga,h_rf]; rfl
   clear hf hx hd
   by_cases hl2:f.length<=20
   ·rw [decide_eq_true hl2,Bool.true_and] at hi
    obtain ⟨T,hT⟩ : ∃ T,T=(p.drop (i.toNat+1)).all fun f=>decide (f.length<=20)&&f.all (okI n):=⟨_,rfl⟩
    rw [<- hT] at hi
    obtain ⟨m,hm0,hm⟩ : ∃ n:Int,0<=n/\n.toNat=rf.length:=⟨rf.length,by omega,by omega⟩
    repeat' (cbv; first|refine .y ?_|refine .n ?_|refine .s (fun hc=>?_) fun hc=>?_|refine Lt.to True.intro (show (rf.length:Int)=m by omega) ?_|refine .row ga' ?_|refine .a fun v hv=>?_|refine .d ?_|refine .u fun vr vn hvr hvn hvl=>?_|fail)
    all_goals (try cbv)
    refine LoopQ.to (ι:=Int) (fun k=>⟨tab .undef [(0,.sl false 1 ra),(3,.ptr 100 0),(17,.sl false 1 ra),(18,.int .i64 n),(19,.int .i64 i),(26,.sl false 2 rf),(27,.int .i64 m),(28,.int .i64 k)],tab .dead [(100,.box shapesL)]⟩)
      (fun k=>0<=k/\k.toNat<=f.length/\b=((f.drop k.toNat).all (okI n)&&T)) (fun k=>f.length - k.toNat) 0 ⟨by omega,by omega,hi⟩ rfl fun k ⟨k0,k1',hk⟩ B hB=>?_
    clear hi
    rcases drop_cases k1' with ⟨e,hd'⟩|⟨hlt',x,hd',hx'⟩
    · rw [hd',List.all_nil,Bool.true_and,hT] at hk
      repeat' (cbv; first|refine .y ?_|refine .n ?_|refine .s (fun hc=>?_) fun hc=>?_|refine .a fun v hv=>?_|refine .d ?_|refine .u fun vr vn hvr hvn hvl=>?_|fail)
      all_goals (try cbv)
      exact hA _ _ ⟨by omega,by omega,by rw [hk,show v.toNat=i.toNat+1 by omega]⟩ (by omega) rfl
    · rw [hd', List.all_cons] at hk
      have gf:=getD_rows h_rf hx'
      obtain ⟨xd,xa⟩:=x
      clear hd' hx' hT ga ga' hA
      by_cases hdr:0<=xd/\xd<=6/\0<=xa
      ·rcases (show xd=0\/xd=1\/xd=2\/xd=3\/xd=4\/xd=5\/xd=6 by omega) with e|e|e|e|e|e|e <;> subst e
       all_goals
        simp only [okI,mostI,Int.reduceEq,if_true,if_false,or_false,false_or,or_true,true_or,or_self] at hk
        try rw [<- hP] at k1
        try rw [<- hP] at k2
        try rw [<- hP] at k3
        try rw [<- hP] at k4
        repeat' (cbv; first|refine .y ?_|refine .n ?_|refine .s (fun hc=>?_) fun hc=>?_|refine .row gf ?_|refine CanQ.to (hP ▸ can_sh1) ?_|refine CanQ.to (hP ▸ can_sh2) ?_|refine CanQ.to (hP ▸ can_sh3) ?_|refine CanQ.to (hP ▸ can_sh4) ?_|refine .gq k1 ?_|refine .gq k2 ?_|refine .gq k3 ?_|refine .gq k4 ?_|refine .a fun v hv=>?_|refine .d ?_|refine .u fun vr vn hvr hvn hvl=>?_|fail)
        all_goals (try cbv)
        all_goals first
         | (
            have hbe:b=false:=by rw [hk,decide_eq_false (by omega)]; rfl
            subst hbe; (refine hQ _ ?_; exact ⟨rfl,rfl,rfl,rfl,rfl⟩))
         | (
            rw [decide_eq_true (by omega),Bool.true_and] at hk
            exact hB _ _ ⟨by omega,by omega,by rw [hk,show v.toNat=k.toNat+1 by omega]⟩ (by omega) rfl)
      ·rw [show okI n ⟨xd,xa⟩=false from decide_eq_false (by dsimp only; omega),Bool.false_and,Bool.false_and] at hk
       repeat' (cbv; first|refine .y ?_|refine .n ?_|refine .s (fun hc=>?_) fun hc=>?_|refine .row gf ?_|refine .a fun v hv=>?_|refine .d ?_|refine .u fun vr vn hvr hvn hvl=>?_|fail)
       all_goals (try cbv)
       all_goals first
        |(
          have hbe:b=false:=hk
          subst hbe; (refine hQ _ ?_; exact ⟨rfl,rfl,rfl,rfl,rfl⟩))
        |(exfalso; omega)
   ·rw [decide_eq_false hl2,Bool.false_and,Bool.false_and] at hi
    repeat' (cbv; first|refine .y ?_|refine .n ?_|refine .s (fun hc=>?_) fun hc=>?_|refine .row ga' ?_|refine .a fun v hv=>?_|refine .d ?_|refine .u fun vr vn hvr hvn hvl=>?_|fail)
    all_goals (try cbv)
    have hbe:b=false:=by exact hi
    subst hbe; refine hQ _ ?_; exact ⟨rfl,rfl,rfl,rfl,rfl⟩
 ·rw [decide_eq_false hl,Bool.false_and] at hb
  repeat' (cbv; first|refine .y ?_|refine .n ?_|refine .s (fun hc=>?_) fun hc=>?_|refine .a fun v hv=>?_|refine .d ?_|refine .u fun vr vn hvr hvn hvl=>?_|fail)
  all_goals (try cbv)
  all_goals first
   |(
     have hbe:b=false:=hb
     subst hbe; (refine hQ _ ?_; exact ⟨rfl,rfl,rfl,rfl,rfl⟩))
   |(exfalso; omega)
end Go.Ab

namespace Go.Ab
open Go Go.Proofs
set_option maxRecDepth 100000
def gK (t:TD):V:=.int .i64 t.g
theorem midx_seen (g:Int):∀ pre:List TD,(midx (.int .i64 g) (pre.map gK)).isSome=pre.any fun t=>decide (t.g=g)
 |[]=>rfl
 |t :: l=>by
  have ih:=midx_seen g l
  simp only [List.map_cons,midx,List.any_cons]
  by_cases h:t.g=g
  ·have e:(V.int .i64 g).keyIs (gK t)=true:=by simp [gK,V.keyIs,h]
   rw [if_pos e]; simp [h]
  ·have e:¬ (V.int .i64 g).keyIs (gK t)=true:=by simp [gK,V.keyIs]; omega
   rw [if_neg e,Option.isSome_map,ih]; simp [h]
theorem midx_lt {k:V}:∀ {ks:List V} {j:Nat},midx k ks=some j->j < ks.length
 |[],_,h=>by simp [midx] at h
 |x :: ks,j,h=>by
  simp only [midx] at h
  split at h
  ·simp at h; subst h; simp
  ·simp only [Option.map_eq_some_iff] at h
   obtain ⟨i,hi,rfl⟩:=h
   have:=midx_lt hi
   simp; omega
theorem mget_seen (pre:List TD) (g:Int) (b:Bool) (hb:b=pre.any fun t=>decide (t.g=g)) :
  (match mfind (.int .i64 g) (pre.map gK) (pre.map fun _=>V.bool true) with|some v=>v.unown|none=>.bool false)=.bool b:=by
 have h:=midx_seen g pre
 unfold mfind
 rw [<- h] at hb
 cases hm:midx (.int .i64 g) (pre.map gK) with
 |none=>rw [hm] at hb; simp only [Option.bind_none]; rw [hb]; rfl
 |some j =>
  have:=midx_lt hm
  rw [List.length_map] at this
  rw [hm] at hb
  simp only [Option.bind_some,List.getElem?_map,List.getElem?_eq_getElem this,Option.map_some,V.unown]
  rw [hb]; rfl
theorem mput_new (pre:List TD) (x:TD) (h:(pre.any fun t=>decide (t.g=x.g))=false) :
  mput (.int .i64 x.g) (.bool true) (pre.map gK) (pre.map fun _=>V.bool true)=((pre ++ [x]).map gK,(pre ++ [x]).map fun _=>V.bool true):=by
 have h1:=midx_seen x.g pre
 rw [h] at h1
 unfold mput
 cases hm:midx (.int .i64 x.g) (pre.map gK) with
 |none=>simp [gK]
 |some j=>rw [hm] at h1; cases h1
theorem cmp_ahead (y x:TD):cmpT y x < 0↔aheadP y x:=by
 unfold cmpT aheadP cmpI
 repeat' split
 all_goals omega
structure SlI where
 i:Int
 ks:List V
 vs:List V
set_option maxHeartbeats 8000000 in
theorem c108 (l:List TD) (hl:l.length<=1000000) (b:Bool) (hb:b=mayT [] l):CallsV Try.prog 108 [.sl false 2 (l.map tC)] (.bool b) [.undef] true:=by
 obtain ⟨ra,h_ra⟩ : ∃ r,r=l.map tC:=⟨_,rfl⟩
 have s_ra:V.shR ra=ra:=by rw [h_ra]; exact shR_tC l
 have l_ra:ra.length=l.length:=by simp [h_ra]
 rw [<- h_ra]
 refine callsV_q hD Try.func108 ok108x rfl rfl (by simp only [List.map_cons,List.map_nil,V.sh,s_ra]) fun P Q hP hQ=>?_
 obtain ⟨m,hm0,hm⟩ : ∃ n:Int,0<=n/\n.toNat=ra.length:=⟨ra.length,by omega,by omega⟩
 repeat' (cbv; first|refine .y ?_|refine .n ?_|refine .s (fun hc=>?_) fun hc=>?_|refine Lt.to True.intro (show (ra.length:Int)=m by omega) ?_|refine .a fun v hv=>?_|refine .d ?_|refine .u fun vr vn hvr hvn hvl=>?_|fail)
 all_goals (try cbv)
 refine LoopQ.to (ι:=SlI) (fun p=>⟨tab .undef [(0,.sl false 2 ra),(3,.mp 100),(7,.sl false 2 ra),(8,.int .i64 m),(9,.int .i64 p.i)],tab .dead [(100,.mp p.ks p.vs)]⟩)
  (fun p=>0<=p.i/\p.i.toNat<=l.length/\p.ks=(l.take p.i.toNat).map gK/\p.vs=((l.take p.i.toNat).map fun _=>V.bool true)/\b=mayT (l.take p.i.toNat) (l.drop p.i.toNat)) (fun p=>l.length - p.i.toNat) ⟨0,[],[]⟩ ⟨by simp,by simp,by simp,by simp,by simpa using hb⟩ rfl fun ⟨i,ks,vs⟩ ⟨i0,i1,hks,hvs,hi⟩ A hA=>?_
 dsimp only at i0 i1 hks hvs hi ⊢
 clear hb
 rcases drop_cases i1 with ⟨e,hd⟩|⟨hlt,x,hd,hx⟩
 ·rw [hd] at hi
  repeat' (cbv; first|refine .y ?_|refine .n ?_|refine .s (fun hc=>?_) fun hc=>?_|refine .a fun v hv=>?_|refine .d ?_|refine .u fun vr vn hvr hvn hvl=>?_|fail)
  all_goals (try cbv)
  have hbe:b=true:=by rw [hi]; rfl
  subst hbe; refine hQ _ ?_; exact ⟨rfl,rfl,rfl,rfl,rfl⟩
 ·rw [hd, mayT] at hi
  have ga:=getD_rows h_ra hx
  have ht:=take_succ_of hx
  obtain ⟨T,hT⟩ : ∃ T,T=mayT (l.take i.toNat ++ [x]) (l.drop (i.toNat+1)):=⟨_,rfl⟩
  rw [<- hT] at hi
  obtain ⟨pre,hpre⟩ : ∃ pre,pre=l.take i.toNat:=⟨_,rfl⟩
  have lpre:pre.length=i.toNat:=by rw [hpre]; simp; omega
  rw [<- hpre] at hi hT hks hvs
  have hnext:b=T->∀ v:Int,v=i+1->∀ ks' vs',ks'=(pre ++ [x]).map gK->vs'=((pre ++ [x]).map fun _=>V.bool true) ->
    ks'=(l.take v.toNat).map gK/\vs'=((l.take v.toNat).map fun _=>V.bool true)/\b=mayT (l.take v.toNat) (l.drop v.toNat):=fun e v hv ks' vs' h1 h2=>by
   rw [show v.toNat=i.toNat+1 by omega,ht,<- hpre,e,hT]
   exact ⟨h1,h2,rfl⟩
  obtain ⟨sn,hsn⟩ : ∃ sn,sn=pre.any fun t=>decide (t.g=x.g):=⟨_,rfl⟩
  have hget:(match mfind (.int .i64 x.g) ks vs with|some v=>v.unown|none=>.bool false)=.bool sn:=by rw [hks,hvs]; exact mget_seen pre x.g sn hsn
  have hall:(pre.all fun y=>decide (y.g≠x.g))=!sn:=by
   rw [hsn]; clear hsn hget hnext hT hi lpre hpre hks hvs
   induction pre with
   |nil=>rfl
   |cons y l ih=>simp only [List.all_cons,List.any_cons,ih,Bool.not_or]; by_cases h:y.g=x.g <;> simp [h]
  have hkey:(V.int .i64 0).keyLike (V.int .i64 x.g)=true/\∀ y∈ks,(V.int .i64 0).keyLike y=true:=⟨rfl,fun y hy=>by
   rw [hks] at hy
   obtain ⟨t,_,rfl⟩:=List.mem_map.1 hy
   rfl⟩
  rw [hall] at hi
  have hkx:okT x=decide (0<=x.t/\x.t < 4611686018427387904/\1<=x.g):=rfl
  rw [hkx] at hi
  by_cases hok:0<=x.t/\x.t < 4611686018427387904/\1<=x.g
  ·rw [decide_eq_true hok,Bool.true_and] at hi
   cases sn with
   |true =>
    simp only [Bool.not_true,Bool.and_false,Bool.false_and] at hi
    obtain ⟨xt,xg⟩:=x
    dsimp only at hok hget hkey
    clear hnext hT hks hvs hx hd ht hall hsn
    repeat' (cbv; first|refine .y ?_|refine .n ?_|refine .s (fun hc=>?_) fun hc=>?_|refine .row ga ?_|refine Lt.to hkey hget ?_|refine .a fun v hv=>?_|refine .d ?_|refine .u fun vr vn hvr hvn hvl=>?_|fail)
    all_goals (try cbv)
    have hbe:b=false:=by exact hi
    subst hbe; refine hQ _ ?_; exact ⟨rfl,rfl,rfl,rfl,rfl⟩
   |false =>
    obtain ⟨ks',vs',hp,hk',hv'⟩ : ∃ ks' vs',mput (.int .i64 x.g) (.bool true) ks vs=(ks',vs')/\ks'=(pre ++ [x]).map gK/\vs'=((pre ++ [x]).map fun _=>V.bool true) :=
     ⟨_,_,by rw [hks,hvs]; exact mput_new pre x hsn.symm,rfl,rfl⟩
    simp only [Bool.not_false,Bool.and_true] at hi
    have hneed:(V.int .i64 0).keyLike (V.int .i64 x.g)=true/\(∀ y∈ks,(V.int .i64 0).keyLike y=true)/\(V.bool true).closed=true/\(V.bool true).val=true:=⟨hkey.1,hkey.2,rfl,rfl⟩
    rcases (show i=0\/0 < i by omega) with e0|hpos
    ·subst e0
     have hpe:pre=[]:=List.eq_nil_of_length_eq_zero lpre
     have hbT:b=T:=by rw [hi,hpe]; rfl
     have hnx:=hnext hbT
     clear hnext hT hks hvs hx hd ht hall hsn hi
     obtain ⟨xt,xg⟩:=x
     dsimp only at hok hget hkey hp hneed
     have hat1:2=2/\(0:Int)<=0/\(0:Int).toNat < ra.length:=⟨rfl,by omega,by omega⟩
     repeat' (cbv; first|refine .y ?_|refine .n ?_|refine .s (fun hc=>?_) fun hc=>?_|refine Lt.to hat1 ga ?_|refine Lt.to hkey hget ?_|refine MapQ.to hneed hp ?_|refine .a fun v hv=>?_|refine .d ?_|refine .u fun vr vn hvr hvn hvl=>?_|fail)
     all_goals (try cbv)
     exact hA ⟨v,ks',vs'⟩ _ ⟨by dsimp only; omega,by dsimp only; omega,hnx v hv ks' vs' hk' hv'⟩ (by dsimp only; omega) rfl
    ·obtain ⟨j,hj⟩ : ∃ j:Int,j=i - 1:=⟨_,rfl⟩
     obtain ⟨y,hy⟩ : ∃ y,l[j.toNat]?=some y:=⟨_,List.getElem?_eq_getElem (by omega)⟩
     have gy:=getD_rows h_ra hy
     have hlast:pre.getLast?=some y:=by
       rw [List.getLast?_eq_getElem?,lpre,hpre,List.getElem?_take,if_pos (by omega),show i.toNat - 1=j.toNat by omega,hy]
     rw [hlast] at hi
     simp only at hi
     obtain ⟨z,hz⟩ : ∃ z,z=cmpT y x:=⟨_,rfl⟩
     have cz:=r_compare y x z hz
     have hza:=cmp_ahead y x
     rw [<- hz] at hza
     have hhi:b=(decide (z < 0)&&T):=by
       rw [hi]; congr 1; exact decide_eq_decide.2 hza.symm
     clear hT hks hvs hx hd ht hall hsn hi hza hz hlast hy
     obtain ⟨xt,xg⟩:=x
     obtain ⟨yt,yg⟩:=y
     dsimp only at hok hget hkey hp hneed
     try rw [<- hP] at cz
     repeat' (cbv; first|refine .y ?_|refine .n ?_|refine .s (fun hc=>?_) fun hc=>?_|refine .row ga ?_|refine .wn hj ?_|refine .row gy ?_|refine Lt.to hkey hget ?_|refine MapQ.to hneed hp ?_|refine .gq cz ?_|refine .a fun v hv=>?_|refine .d ?_|refine .u fun vr vn hvr hvn hvl=>?_|fail)
     all_goals (try cbv)
     · have hbe:b=false:=by rw [hhi,decide_eq_false (by omega)]; rfl
       subst hbe; refine hQ _ ?_; exact ⟨rfl,rfl,rfl,rfl,rfl⟩
     · exact hA ⟨v,ks',vs'⟩ _ ⟨by dsimp only; omega,by dsimp only; omega,hnext (by rw [hhi,decide_eq_true (by omega),Bool.true_and]) v hv ks' vs' hk' hv'⟩ (by dsimp only; omega) rfl
  ·rw [decide_eq_false hok,Bool.false_and,Bool.false_and,Bool.false_and] at hi
   obtain ⟨xt,xg⟩:=x
   dsimp only at hok hget hkey
   clear hnext hT hks hvs hx hd ht hall hsn
   repeat' (cbv; first|refine .y ?_|refine .n ?_|refine .s (fun hc=>?_) fun hc=>?_|refine .row ga ?_|refine .a fun v hv=>?_|refine .d ?_|refine .u fun vr vn hvr hvn hvl=>?_|fail)
   all_goals (try cbv)
   all_goals first
    |(
      have hbe:b=false:=hi
      subst hbe; (refine hQ _ ?_; exact ⟨rfl,rfl,rfl,rfl,rfl⟩))
    |(exfalso; omega)
end Go.Ab
