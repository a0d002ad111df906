/-
  find: a G is taken out of the queues.
  find.Start.
-/
import Derived.Test.YtkanpbjjabdalaaK28
import Derived.Test.YtkanpbjjabdalaaK29
import Derived.Test.YtkanpbjjabdalaaK30
set_option linter.all false
namespace Go.Ab
open Go Go.Proofs
set_option maxRecDepth 100000
theorem c103 (x g:Int) (b:Bool) (hb:b=decide (x=g)):CallsV Try.prog 103 [.int .i64 x,.cp [.int .i64 g] 0] (.bool b) [.undef,.undef] true:=by
  refine callsV_q hD Try.func103 ok103 rfl rfl rfl fun P Q hP hQ=>?_
  by_cases e:x=g
  · rw [decide_eq_true e] at hb
    subst hb
    repeat' (cbv; first|refine .y ?_|refine .n ?_|refine .s (fun hc=>?_) fun hc=>?_|refine .a fun v hv=>?_|refine .d ?_|refine .u fun vr vn hvr hvn hvl=>?_|fail)
    all_goals (try cbv)
    (refine hQ _ ?_; exact ⟨rfl,rfl,rfl,rfl,rfl⟩)
  · rw [decide_eq_false e] at hb
    subst hb
    repeat' (cbv; first|refine .y ?_|refine .n ?_|refine .s (fun hc=>?_) fun hc=>?_|refine .a fun v hv=>?_|refine .d ?_|refine .u fun vr vn hvr hvn hvl=>?_|fail)
    all_goals (try cbv)
    (refine hQ _ ?_; exact ⟨rfl,rfl,rfl,rfl,rfl⟩)
theorem pred_drop (g:Int):PredI 103 g fun x=>decide (x=g):=⟨by kernel_rfl,fun x=>⟨_,c103 x g _ rfl⟩⟩
def mid {α:Type} (f:α→α) (l:List α) (i:Nat):List α:=(l.take i).map f ++ l.drop i
theorem mid_len {α:Type} {f:α→α} {l:List α} {i:Nat} (h:i≤l.length):(mid f l i).length=l.length:=by unfold mid; simp; omega
theorem mid_get {α:Type} {f:α→α} {l:List α} {i:Nat} {x:α} (h:l[i]?=some x):(mid f l i)[i]?=some x:=by
  have hlt:=(List.getElem?_eq_some_iff.1 h).1
  unfold mid
  rw [List.getElem?_append_right (by simp; omega)]
  simp only [List.length_map,List.length_take,Nat.min_eq_left (Nat.le_of_lt hlt),Nat.sub_self,List.getElem?_drop,Nat.add_zero]; exact h
theorem mid_set {α:Type} {f:α→α} {l:List α} {i:Nat} {x:α} (h:l[i]?=some x):(mid f l i).set i (f x)=mid f l (i+1):=by
  have hlt:=(List.getElem?_eq_some_iff.1 h).1
  have hti:((l.take i).map f).length=i:=by simp; omega
  unfold mid
  rw [List.set_append_right _ _ (by omega),hti,Nat.sub_self,take_succ_of h,List.map_append,List.append_assoc]
  congr 1
  have e:l[i]=x:=by have:=List.getElem?_eq_getElem hlt; rw [this] at h; exact Option.some.inj h
  rw [List.drop_eq_getElem_cons hlt,List.set_cons_zero]
  simp
theorem mid_end {α:Type} {f:α→α} {l:List α}:mid f l l.length=l.map f:=by unfold mid; simp
structure DrI where
  i:Int
  rs:List (List V)
set_option maxHeartbeats 8000000 in
theorem c76 (s:SD) (g:Int) (hgl:s.gl.length≤1000000) (hps:s.ps.length≤1000000) (hr:∀ x∈s.ps,mayR x.r=true) :
    CallsV Try.prog 76 [.io (stR_ s),.int .i64 g] (.tup []) [.io (stR_ (dropS s g)),.undef] true:=by
  have cd:=c89 s.gl hgl 103 g _ (pred_drop g)
  have e0:(s.gl.filter fun x=>!decide (x=g))=s.gl.filter fun x=>decide (x≠g):=List.filter_congr fun x _=>by simp
  rw [e0] at cd
  unfold dropS
  obtain ⟨gl',hgl'⟩ : ∃ l,l=s.gl.filter fun x=>decide (x≠g):=⟨_,rfl⟩
  rw [← hgl'] at cd ⊢
  clear e0 hgl'
  obtain ⟨prog,gs,ps,ms,gl,c0,c1,c2,c3,w0,w1,w2,w3,ts,ck,pr⟩:=s
  obtain ⟨rp,rg,rq,rm,rl,r0,r1,r2,r3,rt,⟨h_rp,s_rp,l_rp⟩,⟨h_rg,s_rg,l_rg⟩,⟨h_rq,s_rq,l_rq⟩,⟨h_rm,s_rm,l_rm⟩,⟨h_rl,s_rl,l_rl⟩,⟨h_r0,s_r0,l_r0⟩,⟨h_r1,s_r1,l_r1⟩,⟨h_r2,s_r2,l_r2⟩,⟨h_r3,s_r3,l_r3⟩,⟨h_rt,s_rt,l_rt⟩,hst_⟩:=stR prog gs ps ms gl c0 c1 c2 c3 w0 w1 w2 w3 ts ck pr
  dsimp only at hgl hps hr cd ⊢
  rw [stR_mk,stR_mk,← h_rp,← h_rg,← h_rq,← h_rm,← h_rl,← h_r0,← h_r1,← h_r2,← h_r3,← h_rt]
  rw [← h_rl] at cd
  obtain ⟨rl',h_rl'⟩ : ∃ r,r=gl'.map iC:=⟨_,rfl⟩
  have s_rl':V.shR rl'=rl':=by rw [h_rl']; exact shR_iC gl'
  have l_rl':rl'.length=gl'.length:=by simp [h_rl']
  rw [← h_rl'] at cd ⊢
  obtain ⟨rq',h_rq'⟩ : ∃ r,r=(ps.map (dropP g)).map pC:=⟨_,rfl⟩
  rw [← h_rq']
  have h0:rq=(mid (dropP g) ps 0).map pC:=by rw [h_rq]; rfl
  clear hst_ h_rp h_rg h_rq h_rm h_rl h_r0 h_r1 h_r2 h_r3 h_rt h_rl' l_rp l_rg l_rm l_rl l_rl' l_r0 l_r1 l_r2 l_r3 l_rt
  refine callsV_l hD Try.func76 ok76 rfl rfl (by simp only [List.map_cons,List.map_nil,V.sh,V.shL,stL,stN,stK,stH,s_rp,s_rg,s_rq,s_rm,s_rl,s_r0,s_r1,s_r2,s_r3,s_rt]) fun P L Q hP hL hQ=>?_
  rw [← hP] at cd
  have lq:L rq=rq.length:=hL rq
  obtain ⟨m,hm⟩ : ∃ n:Int,0≤n∧n.toNat=L rq:=⟨L rq,by omega,by omega⟩
  repeat' (cbv; first|refine .y ?_|refine .n ?_|refine .s (fun hc=>?_) fun hc=>?_|refine .x ?_|refine .r ?_|refine .e fun v hv=>?_|refine .a fun v hv=>?_|refine .d ?_|refine .u fun vr vn hvr hvn hvl=>?_|fail)
  all_goals (try cbv)
  refine LoopQ.to (ι:=DrI) (fun q=>⟨tab .undef [(0,.ptr 100 0),(3,.ptr 111 0),(25,.int .i64 m),(26,.int .i64 q.i)],tab .dead [(100,.box [.sref 101 0 (L rp),.sref 102 0 (L rg),.sref 103 0 (L rq),.sref 104 0 (L rm),.sref 112 0 (L rl'),.int .i64 c0,.int .i64 c1,.int .i64 c2,.int .i64 c3,.sl false 1 r0,.sl false 1 r1,.sl false 1 r2,.sl false 1 r3,.sl false 2 rt,.int .i64 ck,.int .i64 pr]),
      (101,.rows 1 rp),(102,.rows 5 rg),(103,.rows 13 q.rs),(104,.rows 2 rm),(111,.box [.int .i64 g]),(112,.rows 1 rl')]⟩)
    (fun q=>0≤q.i∧q.i.toNat≤ps.length∧q.rs=(mid (dropP g) ps q.i.toNat).map pC) (fun q=>ps.length - q.i.toNat) ⟨0,rq⟩ ⟨by simp,by simp,h0⟩ rfl fun ⟨i,rs⟩ ⟨i0,i1,hrs⟩ A hA=>?_
  dsimp only at i0 i1 hrs ⊢
  have lrs:rs.length=rq.length:=by rw [hrs,List.length_map,mid_len i1]; omega
  clear cd h0
  rcases drop_cases i1 with ⟨e,_⟩|⟨hlt,x,_,hx⟩
  · rw [e,mid_end,← h_rq'] at hrs
    subst hrs
    have lE:L rq=L rs:=by rw [hL,hL]; omega
    repeat' (cbv; first|refine .y ?_|refine .n ?_|refine .s (fun hc=>?_) fun hc=>?_|refine .x ?_|refine .r ?_|refine .e fun v hv=>?_|refine .a fun v hv=>?_|refine .d ?_|refine .u fun vr vn hvr hvn hvl=>?_|fail)
    all_goals (try cbv)
    (refine hQ _ ⟨?_,?_,?_,?_,?_⟩ <;> (try cbv) <;> (repeat' first|exact True.intro|exact rfl|assumption|exact FrR.mk rfl|exact FrS.mk rfl|(rw [hL]; rfl)|refine ⟨?_,?_⟩|fail))
  · have hnext:=mid_set (f:=dropP g) hx
    have hget:=mid_get (f:=dropP g) hx
    have hrx:=hr x (mem_of_get hx)
    have cl:=r_List x.r
    have hlen:=listR_len x.r
    have hpos:=listR_pos hrx
    obtain ⟨xh0,xh1⟩:=mayR_h hrx
    obtain ⟨b,hb⟩ : ∃ b,b=decide (g∈listR x.r):=⟨_,rfl⟩
    have cc:=c105 (listR x.r) (by omega) g b hb
    have hdp:dropP g x={ (if x.nx=g then ({ x with nx:=0 }:PD) else x) with r:=if b=true then atR x.r.h ((listR x.r).filter fun z=>decide (z≠g)) else x.r }:=by
      unfold dropP
      dsimp only
      by_cases q:g∈listR x.r
      · have e:b=true:=by rw [hb]; exact decide_eq_true q
        rw [if_pos q]
        subst e
        rfl
      · have e:b=false:=by rw [hb]; exact decide_eq_false q
        rw [if_neg q]
        subst e
        split <;> rfl
    obtain ⟨l,hll⟩ : ∃ l,l=listR x.r:=⟨_,rfl⟩
    rw [← hll] at cl hlen hpos cc hdp
    rw [hdp] at hnext
    obtain ⟨psi,hpsi⟩ : ∃ q,q=mid (dropP g) ps i.toNat:=⟨_,rfl⟩
    rw [← hpsi] at hrs hnext hget
    have lpsi:psi.length=ps.length:=by rw [hpsi]; exact mid_len i1
    clear hll hb hdp hpsi hx hrx hr h_rq'
    obtain ⟨xm,xn,⟨b0,b1,b2,b3,b4,b5,b6,b7,xh,xl⟩,xs⟩:=x
    dsimp only at hnext cl xh0 xh1
    obtain ⟨ra,h_ra⟩ : ∃ r,r=l.map iC:=⟨_,rfl⟩
    have s_ra:V.shR ra=ra:=by rw [h_ra]; exact shR_iC l
    have l_ra:ra.length=l.length:=by simp [h_ra]
    rw [← h_ra] at cl cc
    obtain ⟨k,hk⟩ : ∃ k:Nat,0+i.toNat=k:=⟨_,rfl⟩
    have gx:rs.getD k []=pC ⟨xm,xn,⟨b0,b1,b2,b3,b4,b5,b6,b7,xh,xl⟩,xs⟩:=getD_rows hrs (by rw [show k=i.toNat by omega]; exact hget)
    have hkl:k < rs.length:=by omega
    rw [← hP] at cl cc
    have hsame:psi.set i.toNat ⟨xm,xn,⟨b0,b1,b2,b3,b4,b5,b6,b7,xh,xl⟩,xs⟩=psi:=by
      refine List.ext_getElem? fun j=>?_
      by_cases hj:i.toNat=j
      · subst hj; rw [List.getElem?_set_self (by omega),hget]
      · rw [List.getElem?_set_ne hj]
    by_cases hn:xn=g
    · rw [if_pos hn] at hnext
      obtain ⟨ru,e1,g1,l1,q1⟩:=upd_row hkl gx 1 [.int .i64 0]
      have hru:ru=(psi.set i.toNat ⟨xm,0,⟨b0,b1,b2,b3,b4,b5,b6,b7,xh,xl⟩,xs⟩).map pC:=by
        rw [q1,map_set,← hrs,show i.toNat=k by omega]; rfl
      have g1':ru.getD k []=pC ⟨xm,0,⟨b0,b1,b2,b3,b4,b5,b6,b7,xh,xl⟩,xs⟩:=g1
      clear g1 q1 hrs hsame
      dsimp only at hnext
      cases b with
      | false =>
        rw [if_neg (by simp)] at hnext
        repeat' (cbv; first|refine .y ?_|refine .n ?_|refine .s (fun hc=>?_) fun hc=>?_|refine .x ?_|refine .r ?_|refine .e fun v hv=>?_|refine .a fun v hv=>?_|refine .d ?_|refine .u fun vr vn hvr hvn hvl=>?_|fail)
        all_goals (try cbv)
        exact hA ⟨v,ru⟩ _ ⟨by dsimp only; omega,by dsimp only; omega,by dsimp only; rw [hru,hnext,show v.toNat=i.toNat+1 by omega]⟩ (by dsimp only; omega) (by cbv)
      | true =>
        rw [if_pos rfl] at hnext
        obtain ⟨rv,e2,g2,l2,q2⟩:=upd_row (show k < ru.length by omega) g1' 2 [.int .i64 0,.int .i64 0,.int .i64 0,.int .i64 0,.int .i64 0,.int .i64 0,.int .i64 0,.int .i64 0,.int .i64 xh,.int .i64 0]
        have hrv:rv=(psi.set i.toNat ⟨xm,0,atR xh [],xs⟩).map pC:=by
          rw [q2,hru,map_set,map_set,show i.toNat=k by omega,List.set_set]; rfl
        obtain ⟨mr,hmr⟩ : ∃ n:Int,0≤n∧n.toNat=ra.length:=⟨ra.length,by omega,by omega⟩
        repeat' (cbv; first|refine .y ?_|refine .n ?_|refine .s (fun hc=>?_) fun hc=>?_|refine .x ?_|refine .r ?_|refine .e fun v hv=>?_|refine .a fun v hv=>?_|refine .d ?_|refine .u fun vr vn hvr hvn hvl=>?_|fail)
        all_goals (try cbv)
        refine LoopQ.to (ι:=StI) (fun q=>⟨tab .undef [(0,.ptr 100 0),(3,.ptr 111 0),(6,.rptr 103 k 0),(25,.int .i64 m),(26,.int .i64 i),(63,.sl true 1 ra),(64,.int .i64 mr),(65,.int .i64 q.i)],tab .dead [(100,.box [.sref 101 0 (L rp),.sref 102 0 (L rg),.sref 103 0 (L rq),.sref 104 0 (L rm),.sref 112 0 (L rl'),.int .i64 c0,.int .i64 c1,.int .i64 c2,.int .i64 c3,.sl false 1 r0,.sl false 1 r1,.sl false 1 r2,.sl false 1 r3,.sl false 2 rt,.int .i64 ck,.int .i64 pr]),
            (101,.rows 1 rp),(102,.rows 5 rg),(103,.rows 13 q.rs),(104,.rows 2 rm),(111,.box [.int .i64 g]),(112,.rows 1 rl')]⟩)
          (fun q=>0≤q.i∧q.i.toNat≤l.length∧q.y=atR xh ((l.take q.i.toNat).filter fun z=>decide (z≠g))∧q.rs=(psi.set i.toNat ⟨xm,0,q.y,xs⟩).map pC) (fun q=>l.length - q.i.toNat) ⟨0,atR xh [],rv⟩ ⟨by simp,by simp,by simp,hrv⟩ rfl fun ⟨j,y,rj⟩ ⟨j0,j1,hy,hrj⟩ B hB=>?_
        dsimp only at j0 j1 hy hrj ⊢
        have lrj:rj.length=rs.length:=by rw [hrj,List.length_map,List.length_set]; omega
        clear cl cc e2 g2 q2 hrv g1' hru
        rcases drop_cases j1 with ⟨e9,_⟩|⟨hlt9,z,_,hz⟩
        · rw [e9,List.take_length] at hy
          rw [hy,hnext] at hrj
          repeat' (cbv; first|refine .y ?_|refine .n ?_|refine .s (fun hc=>?_) fun hc=>?_|refine .x ?_|refine .r ?_|refine .e fun v hv=>?_|refine .a fun v hv=>?_|refine .d ?_|refine .u fun vr vn hvr hvn hvl=>?_|fail)
          all_goals (try cbv)
          exact hA ⟨v,rj⟩ _ ⟨by dsimp only; omega,by dsimp only; omega,by dsimp only; rw [hrj,show v.toNat=i.toNat+1 by omega]⟩ (by dsimp only; omega) (by cbv)
        · have gz:ra.getD j.toNat []=[.int .i64 z]:=getD_rows h_ra hz
          have z1:=hpos z (mem_of_get hz)
          have hft:(l.take (j.toNat+1)).filter (fun z=>decide (z≠g))=(l.take j.toNat).filter (fun z=>decide (z≠g)) ++ if z=g then [] else [z]:=by
            rw [take_succ_of hz,List.filter_append]
            by_cases q:z=g
            · simp [q]
            · simp [q]
          by_cases hzg:z=g
          · rw [if_pos hzg,List.append_nil] at hft
            clear h_ra hnext hpos
            repeat' (cbv; first|refine .y ?_|refine .n ?_|refine .s (fun hc=>?_) fun hc=>?_|refine .x ?_|refine .r ?_|refine .e fun v hv=>?_|refine .a fun v hv=>?_|refine .d ?_|refine .u fun vr vn hvr hvn hvl=>?_|fail)
            all_goals (try cbv)
            exact hB ⟨v,y,rj⟩ _ ⟨by dsimp only; omega,by dsimp only; omega,by dsimp only; rw [hy,show v.toNat=j.toNat+1 by omega,hft],hrj⟩ (by dsimp only; omega) (by cbv)
          · rw [if_neg hzg] at hft
            have hfl:((l.take j.toNat).filter fun z=>decide (z≠g)).length < 8:=by
              have h1:=List.length_filter_le (fun z=>decide (z≠g)) (l.take j.toNat)
              have h2:(l.take j.toNat).length=j.toNat:=by simp; omega
              omega
            obtain ⟨w1,w2⟩:=at_ok xh0 xh1 (l:=(l.take j.toNat).filter fun z=>decide (z≠g)) (by omega) fun q hq=>hpos q (List.mem_of_mem_take (List.mem_filter.1 hq).1)
            rw [← hy] at w1 w2
            have cp:=r_Push w1 (by rw [w2]; exact hfl) z1
            have hyh:y.h=xh:=by rw [hy]; rfl
            rw [w2,hyh,← hft] at cp
            obtain ⟨y2,hy2⟩ : ∃ y2,y2=atR xh ((l.take (j.toNat+1)).filter fun z=>decide (z≠g)):=⟨_,rfl⟩
            rw [← hy2] at cp
            have gy:rj.getD k []=pC ⟨xm,0,y,xs⟩:=getD_rows (x:=(⟨xm,0,y,xs⟩ : PD)) hrj (by rw [show k=i.toNat by omega]; exact List.getElem?_set_self (by omega))
            obtain ⟨rk,ek,gk,lk,qk⟩:=upd_row (show k < rj.length by omega) gy 2 [.int .i64 y2.b0,.int .i64 y2.b1,.int .i64 y2.b2,.int .i64 y2.b3,.int .i64 y2.b4,.int .i64 y2.b5,.int .i64 y2.b6,.int .i64 y2.b7,.int .i64 y2.h,.int .i64 y2.n]
            have hrk:rk=(psi.set i.toNat ⟨xm,0,y2,xs⟩).map pC:=by
              rw [qk,hrj,map_set,map_set,show i.toNat=k by omega,List.set_set]; rfl
            rw [← hP] at cp
            clear h_ra hnext hpos w1 w2 hft hfl hyh qk hrj
            repeat' (cbv; first|refine .y ?_|refine .n ?_|refine .s (fun hc=>?_) fun hc=>?_|refine .x ?_|refine .r ?_|refine .e fun v hv=>?_|refine .a fun v hv=>?_|refine .d ?_|refine .u fun vr vn hvr hvn hvl=>?_|fail)
            all_goals (try cbv)
            exact hB ⟨v,y2,rk⟩ _ ⟨by dsimp only; omega,by dsimp only; omega,by dsimp only; rw [hy2,show v.toNat=j.toNat+1 by omega],hrk⟩ (by dsimp only; omega) (by cbv)
    · rw [if_neg hn] at hnext
      obtain ⟨ru,hru'⟩ : ∃ r,r=rs:=⟨_,rfl⟩
      have hru:ru=(psi.set i.toNat ⟨xm,xn,⟨b0,b1,b2,b3,b4,b5,b6,b7,xh,xl⟩,xs⟩).map pC:=by
        rw [hru',hsame,hrs]
      have l1:ru.length=rs.length:=by rw [hru']
      rw [← hru'] at gx
      have g1':=gx
      rw [← hru']
      clear hsame hrs gx
      dsimp only at hnext
      cases b with
      | false =>
        rw [if_neg (by simp)] at hnext
        repeat' (cbv; first|refine .y ?_|refine .n ?_|refine .s (fun hc=>?_) fun hc=>?_|refine .x ?_|refine .r ?_|refine .e fun v hv=>?_|refine .a fun v hv=>?_|refine .d ?_|refine .u fun vr vn hvr hvn hvl=>?_|fail)
        all_goals (try cbv)
        exact hA ⟨v,ru⟩ _ ⟨by dsimp only; omega,by dsimp only; omega,by dsimp only; rw [hru,hnext,show v.toNat=i.toNat+1 by omega]⟩ (by dsimp only; omega) (by cbv)
      | true =>
        rw [if_pos rfl] at hnext
        obtain ⟨rv,e2,g2,l2,q2⟩:=upd_row (show k < ru.length by omega) g1' 2 [.int .i64 0,.int .i64 0,.int .i64 0,.int .i64 0,.int .i64 0,.int .i64 0,.int .i64 0,.int .i64 0,.int .i64 xh,.int .i64 0]
        have hrv:rv=(psi.set i.toNat ⟨xm,xn,atR xh [],xs⟩).map pC:=by
          rw [q2,hru,map_set,map_set,show i.toNat=k by omega,List.set_set]; rfl
        obtain ⟨mr,hmr⟩ : ∃ n:Int,0≤n∧n.toNat=ra.length:=⟨ra.length,by omega,by omega⟩
        repeat' (cbv; first|refine .y ?_|refine .n ?_|refine .s (fun hc=>?_) fun hc=>?_|refine .x ?_|refine .r ?_|refine .e fun v hv=>?_|refine .a fun v hv=>?_|refine .d ?_|refine .u fun vr vn hvr hvn hvl=>?_|fail)
        all_goals (try cbv)
        refine LoopQ.to (ι:=StI) (fun q=>⟨tab .undef [(0,.ptr 100 0),(3,.ptr 111 0),(6,.rptr 103 k 0),(25,.int .i64 m),(26,.int .i64 i),(63,.sl true 1 ra),(64,.int .i64 mr),(65,.int .i64 q.i)],tab .dead [(100,.box [.sref 101 0 (L rp),.sref 102 0 (L rg),.sref 103 0 (L rq),.sref 104 0 (L rm),.sref 112 0 (L rl'),.int .i64 c0,.int .i64 c1,.int .i64 c2,.int .i64 c3,.sl false 1 r0,.sl false 1 r1,.sl false 1 r2,.sl false 1 r3,.sl false 2 rt,.int .i64 ck,.int .i64 pr]),
            (101,.rows 1 rp),(102,.rows 5 rg),(103,.rows 13 q.rs),(104,.rows 2 rm),(111,.box [.int .i64 g]),(112,.rows 1 rl')]⟩)
          (fun q=>0≤q.i∧q.i.toNat≤l.length∧q.y=atR xh ((l.take q.i.toNat).filter fun z=>decide (z≠g))∧q.rs=(psi.set i.toNat ⟨xm,xn,q.y,xs⟩).map pC) (fun q=>l.length - q.i.toNat) ⟨0,atR xh [],rv⟩ ⟨by simp,by simp,by simp,hrv⟩ rfl fun ⟨j,y,rj⟩ ⟨j0,j1,hy,hrj⟩ B hB=>?_
        dsimp only at j0 j1 hy hrj ⊢
        have lrj:rj.length=rs.length:=by rw [hrj,List.length_map,List.length_set]; omega
        clear cl cc e2 g2 q2 hrv g1' hru
        rcases drop_cases j1 with ⟨e9,_⟩|⟨hlt9,z,_,hz⟩
        · rw [e9,List.take_length] at hy
          rw [hy,hnext] at hrj
          repeat' (cbv; first|refine .y ?_|refine .n ?_|refine .s (fun hc=>?_) fun hc=>?_|refine .x ?_|refine .r ?_|refine .e fun v hv=>?_|refine .a fun v hv=>?_|refine .d ?_|refine .u fun vr vn hvr hvn hvl=>?_|fail)
          all_goals (try cbv)
          exact hA ⟨v,rj⟩ _ ⟨by dsimp only; omega,by dsimp only; omega,by dsimp only; rw [hrj,show v.toNat=i.toNat+1 by omega]⟩ (by dsimp only; omega) (by cbv)
        · have gz:ra.getD j.toNat []=[.int .i64 z]:=getD_rows h_ra hz
          have z1:=hpos z (mem_of_get hz)
          have hft:(l.take (j.toNat+1)).filter (fun z=>decide (z≠g))=(l.take j.toNat).filter (fun z=>decide (z≠g)) ++ if z=g then [] else [z]:=by
            rw [take_succ_of hz,List.filter_append]
            by_cases q:z=g
            · simp [q]
            · simp [q]
          by_cases hzg:z=g
          · rw [if_pos hzg,List.append_nil] at hft
            clear h_ra hnext hpos
            repeat' (cbv; first|refine .y ?_|refine .n ?_|refine .s (fun hc=>?_) fun hc=>?_|refine .x ?_|refine .r ?_|refine .e fun v hv=>?_|refine .a fun v hv=>?_|refine .d ?_|refine .u fun vr vn hvr hvn hvl=>?_|fail)
            all_goals (try cbv)
            exact hB ⟨v,y,rj⟩ _ ⟨by dsimp only; omega,by dsimp only; omega,by dsimp only; rw [hy,show v.toNat=j.toNat+1 by omega,hft],hrj⟩ (by dsimp only; omega) (by cbv)
          · rw [if_neg hzg] at hft
            have hfl:((l.take j.toNat).filter fun z=>decide (z≠g)).length < 8:=by
              have h1:=List.length_filter_le (fun z=>decide (z≠g)) (l.take j.toNat)
              have h2:(l.take j.toNat).length=j.toNat:=by simp; omega
              omega
            obtain ⟨w1,w2⟩:=at_ok xh0 xh1 (l:=(l.take j.toNat).filter fun z=>decide (z≠g)) (by omega) fun q hq=>hpos q (List.mem_of_mem_take (List.mem_filter.1 hq).1)
            rw [← hy] at w1 w2
            have cp:=r_Push w1 (by rw [w2]; exact hfl) z1
            have hyh:y.h=xh:=by rw [hy]; rfl
            rw [w2,hyh,← hft] at cp
            obtain ⟨y2,hy2⟩ : ∃ y2,y2=atR xh ((l.take (j.toNat+1)).filter fun z=>decide (z≠g)):=⟨_,rfl⟩
            rw [← hy2] at cp
            have gy:rj.getD k []=pC ⟨xm,xn,y,xs⟩:=getD_rows (x:=(⟨xm,xn,y,xs⟩ : PD)) hrj (by rw [show k=i.toNat by omega]; exact List.getElem?_set_self (by omega))
            obtain ⟨rk,ek,gk,lk,qk⟩:=upd_row (show k < rj.length by omega) gy 2 [.int .i64 y2.b0,.int .i64 y2.b1,.int .i64 y2.b2,.int .i64 y2.b3,.int .i64 y2.b4,.int .i64 y2.b5,.int .i64 y2.b6,.int .i64 y2.b7,.int .i64 y2.h,.int .i64 y2.n]
            have hrk:rk=(psi.set i.toNat ⟨xm,xn,y2,xs⟩).map pC:=by
              rw [qk,hrj,map_set,map_set,show i.toNat=k by omega,List.set_set]; rfl
            rw [← hP] at cp
            clear h_ra hnext hpos w1 w2 hft hfl hyh qk hrj
            repeat' (cbv; first|refine .y ?_|refine .n ?_|refine .s (fun hc=>?_) fun hc=>?_|refine .x ?_|refine .r ?_|refine .e fun v hv=>?_|refine .a fun v hv=>?_|refine .d ?_|refine .u fun vr vn hvr hvn hvl=>?_|fail)
            all_goals (try cbv)
            exact hB ⟨v,y2,rk⟩ _ ⟨by dsimp only; omega,by dsimp only; omega,by dsimp only; rw [hy2,show v.toNat=j.toNat+1 by omega],hrk⟩ (by dsimp only; omega) (by cbv)
end Go.Ab

namespace Go.Ab
open Go Go.Proofs
set_option maxRecDepth 100000
theorem getP_drop {s:SD} {g p:Int} (h:p.toNat - 1 < s.ps.length):getP (dropS s g) p=dropP g (getP s p):=by
  unfold getP dropS
  dsimp only
  rw [List.getD_eq_getElem?_getD,List.getD_eq_getElem?_getD,List.getElem?_map,List.getElem?_eq_getElem h]; rfl
theorem dropP_m (g:Int) (x:PD):(dropP g x).m=x.m∧(dropP g x).sq=x.sq:=by
  unfold dropP
  dsimp only
  split <;> split <;> exact ⟨rfl,rfl⟩
set_option maxHeartbeats 8000000 in
theorem c33t (s:SD) (hs:Fit s) (hq:Lowq s) (p g:Int) (h:startOk s p g=true) :
    CallsV Try.prog 33 [.agg (stC s),.int .i64 p,.int .i64 g] (.tup [.agg (stR_ (startS s p g)),.int .i64 0]) [.undef,.undef,.undef] false:=by
  unfold startOk at h
  simp only [Bool.and_eq_true,decide_eq_true_eq] at h
  obtain ⟨h,g1,g2,g3⟩:=h
  have cl:=c70 s hs p true h.symm
  have cc:=q38y s hs
  unfold looksB at h
  simp only [Bool.and_eq_true,decide_eq_true_eq] at h
  obtain ⟨hm,p1,p2,hm0,hg0⟩:=h
  have ho:=(may_ok s).1 hm
  have h8:=ho.p8
  have hpr:=ho.pr8
  obtain ⟨hlt,hx,hr⟩:=P_of ho p1 p2
  have hM:=ho.hp _ _ hx
  unfold okP at hM
  simp only [Bool.and_eq_true,decide_eq_true_eq] at hM
  obtain ⟨-,hM⟩:=hM
  unfold okPp at hM
  obtain ⟨-,-,m0,m1',-⟩:=hM
  have cd:=c76 s g hs.gl hs.ps fun x hx=>by
    obtain ⟨j,hj⟩:=List.getElem?_of_mem hx
    exact (ring_ok ho hj).1
  have em:(getP (dropS s g) p).m=(getP s p).m:=by rw [getP_drop hlt,(dropP_m _ _).1]
  have hgG:=getG_of (s:=s) (p:=g) (by omega)
  have cr:=c75R (dropS s g) p g p1 (by show p.toNat≤(s.ps.map (dropP g)).length; simp; omega) (by rw [em]; omega) (by rw [em]; show _≤s.ms.length; omega) g1 g2 ⟨hs.gs,by show (s.ps.map (dropP g)).length≤_; simpa using hs.ps,hs.ms⟩ (hq _ (List.mem_of_getElem? hgG))
  unfold startS
  obtain ⟨t,ht⟩ : ∃ t,t=dropS s g:=⟨_,rfl⟩
  rw [← ht] at cd cr ⊢
  obtain ⟨u,hu⟩ : ∃ u,u=runS t p g:=⟨_,rfl⟩
  rw [← hu] at cr ⊢
  obtain ⟨x,hxe⟩ : ∃ x,x=getG s g:=⟨_,rfl⟩
  rw [← hxe] at hgG g3
  have hgl:=hs.gs
  clear hr hlt hx ho hm hm0 hg0 m0 m1' hs hq h8 hpr p1 p2 em ht hu hxe
  obtain ⟨x0,x1,x2,x3,x4⟩:=x
  dsimp only at g3
  subst g3
  obtain ⟨prog,gs,ps,ms,gl,c0,c1,c2,c3,w0,w1,w2,w3,ts,ck,pr⟩:=s
  obtain ⟨rp,rg,rq,rm,rl,r0,r1,r2,r3,rt,⟨h_rp,s_rp,l_rp⟩,⟨h_rg,s_rg,l_rg⟩,⟨h_rq,s_rq,l_rq⟩,⟨h_rm,s_rm,l_rm⟩,⟨h_rl,s_rl,l_rl⟩,⟨h_r0,s_r0,l_r0⟩,⟨h_r1,s_r1,l_r1⟩,⟨h_r2,s_r2,l_r2⟩,⟨h_r3,s_r3,l_r3⟩,⟨h_rt,s_rt,l_rt⟩,hst_⟩:=stR prog gs ps ms gl c0 c1 c2 c3 w0 w1 w2 w3 ts ck pr
  dsimp only at g2 hgG hgl
  have gx:rg.getD (g - 1).toNat []=gC ⟨x0,x1,1,x3,x4⟩:=getD_rows (x:=(⟨x0,x1,1,x3,x4⟩ : GD)) h_rg (by rw [show (g - 1).toNat=g.toNat - 1 by omega]; exact hgG)
  obtain ⟨i,hi⟩ : ∃ i:Int,i=g - 1:=⟨_,rfl⟩
  rw [← hi] at gx
  obtain ⟨mg,hmg⟩ : ∃ n:Int,0≤n∧n.toNat=rg.length:=⟨rg.length,by omega,by omega⟩
  rw [hst_] at cl cc ⊢
  rw [stR_mk,← h_rp,← h_rg,← h_rq,← h_rm,← h_rl,← h_r0,← h_r1,← h_r2,← h_r3,← h_rt] at cc cd
  clear hst_ h_rp h_rg h_rq h_rm h_rl h_r0 h_r1 h_r2 h_r3 h_rt l_rp l_rm l_rq l_rl l_r0 l_r1 l_r2 l_r3 l_rt hgG
  obtain ⟨tprog,tgs,tps,tms,tgl,tc0,tc1,tc2,tc3,tw0,tw1,tw2,tw3,tts,tck,tpr⟩:=t
  obtain ⟨trp,trg,trq,trm,trl,tr0,tr1,tr2,tr3,trt,⟨h_trp,s_trp,l_trp⟩,⟨h_trg,s_trg,l_trg⟩,⟨h_trq,s_trq,l_trq⟩,⟨h_trm,s_trm,l_trm⟩,⟨h_trl,s_trl,l_trl⟩,⟨h_tr0,s_tr0,l_tr0⟩,⟨h_tr1,s_tr1,l_tr1⟩,⟨h_tr2,s_tr2,l_tr2⟩,⟨h_tr3,s_tr3,l_tr3⟩,⟨h_trt,s_trt,l_trt⟩,hst_t⟩:=stR tprog tgs tps tms tgl tc0 tc1 tc2 tc3 tw0 tw1 tw2 tw3 tts tck tpr
  rw [stR_mk,← h_trp,← h_trg,← h_trq,← h_trm,← h_trl,← h_tr0,← h_tr1,← h_tr2,← h_tr3,← h_trt] at cd cr
  clear hst_t h_trp h_trg h_trq h_trm h_trl h_tr0 h_tr1 h_tr2 h_tr3 h_trt l_trp l_trg l_trq l_trm l_trl l_tr0 l_tr1 l_tr2 l_tr3 l_trt
  obtain ⟨uprog,ugs,ups,ums,ugl,uc0,uc1,uc2,uc3,uw0,uw1,uw2,uw3,uts,uck,upr⟩:=u
  obtain ⟨urp,urg,urq,urm,url,ur0,ur1,ur2,ur3,urt,⟨h_urp,s_urp,l_urp⟩,⟨h_urg,s_urg,l_urg⟩,⟨h_urq,s_urq,l_urq⟩,⟨h_urm,s_urm,l_urm⟩,⟨h_url,s_url,l_url⟩,⟨h_ur0,s_ur0,l_ur0⟩,⟨h_ur1,s_ur1,l_ur1⟩,⟨h_ur2,s_ur2,l_ur2⟩,⟨h_ur3,s_ur3,l_ur3⟩,⟨h_urt,s_urt,l_urt⟩,hst_u⟩:=stR uprog ugs ups ums ugl uc0 uc1 uc2 uc3 uw0 uw1 uw2 uw3 uts uck upr
  rw [stR_mk,← h_urp,← h_urg,← h_urq,← h_urm,← h_url,← h_ur0,← h_ur1,← h_ur2,← h_ur3,← h_urt] at cr ⊢
  clear hst_u h_urp h_urg h_urq h_urm h_url h_ur0 h_ur1 h_ur2 h_ur3 h_urt l_urp l_urg l_urq l_urm l_url l_ur0 l_ur1 l_ur2 l_ur3 l_urt
  refine callsV_l hD Try.func33 ok33 rfl rfl (by simp only [List.map_cons,List.map_nil,V.sh,V.shL,stL,stN,stK,stH,s_rp,s_rg,s_rq,s_rm,s_rl,s_r0,s_r1,s_r2,s_r3,s_rt]) fun P L Q hP hL hQ=>?_
  rw [← hP] at cl cc cd cr
  repeat' (cbv; first|refine .y ?_|refine .n ?_|refine .s (fun hc=>?_) fun hc=>?_|refine .x ?_|refine .r ?_|refine .e fun v hv=>?_|refine .a fun v hv=>?_|refine .d ?_|refine .u fun vr vn hvr hvn hvl=>?_|fail)
  all_goals (try cbv)
  all_goals first
    | (refine hQ _ ⟨?_,?_,?_,?_,?_⟩ <;> (try cbv) <;> (repeat' first|exact True.intro|exact rfl|assumption|exact FrR.mk rfl|exact FrS.mk rfl|(rw [hL]; rfl)|refine ⟨?_,?_⟩|fail))
    | (exfalso; omega)
set_option maxHeartbeats 8000000 in
theorem c33f (s:SD) (hs:Fit s) (p g:Int) (h:startOk s p g=false) :
    CallsV Try.prog 33 [.agg (stC s),.int .i64 p,.int .i64 g] (.tup [zeroV,.int .i64 1]) [.undef,.undef,.undef] true:=by
  unfold startOk at h
  obtain ⟨b,hb⟩ : ∃ b,b=looksB s p:=⟨_,rfl⟩
  have cl:=c70 s hs p b hb
  rw [← hb] at h
  have hgl:=hs.gs
  cases b with
  | false =>
    clear h hb hs hgl
    obtain ⟨prog,gs,ps,ms,gl,c0,c1,c2,c3,w0,w1,w2,w3,ts,ck,pr⟩:=s
    obtain ⟨rp,rg,rq,rm,rl,r0,r1,r2,r3,rt,⟨h_rp,s_rp,l_rp⟩,⟨h_rg,s_rg,l_rg⟩,⟨h_rq,s_rq,l_rq⟩,⟨h_rm,s_rm,l_rm⟩,⟨h_rl,s_rl,l_rl⟩,⟨h_r0,s_r0,l_r0⟩,⟨h_r1,s_r1,l_r1⟩,⟨h_r2,s_r2,l_r2⟩,⟨h_r3,s_r3,l_r3⟩,⟨h_rt,s_rt,l_rt⟩,hst_⟩:=stR prog gs ps ms gl c0 c1 c2 c3 w0 w1 w2 w3 ts ck pr
    rw [hst_] at cl ⊢
    clear hst_ h_rp h_rg h_rq h_rm h_rl h_r0 h_r1 h_r2 h_r3 h_rt l_rp l_rg l_rm l_rq l_rl l_r0 l_r1 l_r2 l_r3 l_rt
    refine callsV_l hD Try.func33 ok33 rfl rfl (by simp only [List.map_cons,List.map_nil,V.sh,V.shL,stL,stN,stK,stH,s_rp,s_rg,s_rq,s_rm,s_rl,s_r0,s_r1,s_r2,s_r3,s_rt]) fun P L Q hP hL hQ=>?_
    rw [← hP] at cl
    repeat' (cbv; first|refine .y ?_|refine .n ?_|refine .s (fun hc=>?_) fun hc=>?_|refine .x ?_|refine .r ?_|refine .e fun v hv=>?_|refine .a fun v hv=>?_|refine .d ?_|refine .u fun vr vn hvr hvn hvl=>?_|fail)
    all_goals (try cbv)
    (refine hQ _ ⟨?_,?_,?_,?_,?_⟩ <;> (try cbv) <;> (repeat' first|exact True.intro|exact rfl|assumption|exact FrR.mk rfl|exact FrS.mk rfl|(rw [hL]; rfl)|refine ⟨?_,?_⟩|fail))
  | true =>
    rw [Bool.true_and] at h
    simp only [decide_eq_false_iff_not] at h
    clear hb hs
    by_cases hg:1≤g∧g.toNat≤s.gs.length
    · have hgG:=getG_of (s:=s) (p:=g) (by omega)
      have g3:(getG s g).st≠1:=fun e=>h ⟨hg.1,hg.2,e⟩
      clear h
      obtain ⟨g1,g2⟩:=hg
      obtain ⟨x,hxe⟩ : ∃ x,x=getG s g:=⟨_,rfl⟩
      rw [← hxe] at hgG g3
      clear hxe
      obtain ⟨x0,x1,x2,x3,x4⟩:=x
      dsimp only at g3
      obtain ⟨prog,gs,ps,ms,gl,c0,c1,c2,c3,w0,w1,w2,w3,ts,ck,pr⟩:=s
      obtain ⟨rp,rg,rq,rm,rl,r0,r1,r2,r3,rt,⟨h_rp,s_rp,l_rp⟩,⟨h_rg,s_rg,l_rg⟩,⟨h_rq,s_rq,l_rq⟩,⟨h_rm,s_rm,l_rm⟩,⟨h_rl,s_rl,l_rl⟩,⟨h_r0,s_r0,l_r0⟩,⟨h_r1,s_r1,l_r1⟩,⟨h_r2,s_r2,l_r2⟩,⟨h_r3,s_r3,l_r3⟩,⟨h_rt,s_rt,l_rt⟩,hst_⟩:=stR prog gs ps ms gl c0 c1 c2 c3 w0 w1 w2 w3 ts ck pr
      dsimp only at g2 hgG hgl
      have gx:rg.getD (g - 1).toNat []=gC ⟨x0,x1,x2,x3,x4⟩:=getD_rows (x:=(⟨x0,x1,x2,x3,x4⟩ : GD)) h_rg (by rw [show (g - 1).toNat=g.toNat - 1 by omega]; exact hgG)
      obtain ⟨i,hi⟩ : ∃ i:Int,i=g - 1:=⟨_,rfl⟩
      rw [← hi] at gx
      obtain ⟨mg,hmg⟩ : ∃ n:Int,0≤n∧n.toNat=rg.length:=⟨rg.length,by omega,by omega⟩
      rw [hst_] at cl ⊢
      clear hst_ h_rp h_rg h_rq h_rm h_rl h_r0 h_r1 h_r2 h_r3 h_rt l_rp l_rm l_rq l_rl l_r0 l_r1 l_r2 l_r3 l_rt hgG
      refine callsV_l hD Try.func33 ok33 rfl rfl (by simp only [List.map_cons,List.map_nil,V.sh,V.shL,stL,stN,stK,stH,s_rp,s_rg,s_rq,s_rm,s_rl,s_r0,s_r1,s_r2,s_r3,s_rt]) fun P L Q hP hL hQ=>?_
      rw [← hP] at cl
      repeat' (cbv; first|refine .y ?_|refine .n ?_|refine .s (fun hc=>?_) fun hc=>?_|refine .x ?_|refine .r ?_|refine .e fun v hv=>?_|refine .a fun v hv=>?_|refine .d ?_|refine .u fun vr vn hvr hvn hvl=>?_|fail)
      all_goals (try cbv)
      all_goals first
        | (refine hQ _ ⟨?_,?_,?_,?_,?_⟩ <;> (try cbv) <;> (repeat' first|exact True.intro|exact rfl|assumption|exact FrR.mk rfl|exact FrS.mk rfl|(rw [hL]; rfl)|refine ⟨?_,?_⟩|fail))
        | (exfalso; omega)
    · clear h
      obtain ⟨prog,gs,ps,ms,gl,c0,c1,c2,c3,w0,w1,w2,w3,ts,ck,pr⟩:=s
      obtain ⟨rp,rg,rq,rm,rl,r0,r1,r2,r3,rt,⟨h_rp,s_rp,l_rp⟩,⟨h_rg,s_rg,l_rg⟩,⟨h_rq,s_rq,l_rq⟩,⟨h_rm,s_rm,l_rm⟩,⟨h_rl,s_rl,l_rl⟩,⟨h_r0,s_r0,l_r0⟩,⟨h_r1,s_r1,l_r1⟩,⟨h_r2,s_r2,l_r2⟩,⟨h_r3,s_r3,l_r3⟩,⟨h_rt,s_rt,l_rt⟩,hst_⟩:=stR prog gs ps ms gl c0 c1 c2 c3 w0 w1 w2 w3 ts ck pr
      dsimp only at hg hgl
      obtain ⟨mg,hmg⟩ : ∃ n:Int,0≤n∧n.toNat=rg.length:=⟨rg.length,by omega,by omega⟩
      have hg':g < 1∨mg < g:=by omega
      rw [hst_] at cl ⊢
      clear hst_ h_rp h_rg h_rq h_rm h_rl h_r0 h_r1 h_r2 h_r3 h_rt l_rp l_rm l_rq l_rl l_r0 l_r1 l_r2 l_r3 l_rt hg
      refine callsV_l hD Try.func33 ok33 rfl rfl (by simp only [List.map_cons,List.map_nil,V.sh,V.shL,stL,stN,stK,stH,s_rp,s_rg,s_rq,s_rm,s_rl,s_r0,s_r1,s_r2,s_r3,s_rt]) fun P L Q hP hL hQ=>?_
      rw [← hP] at cl
      repeat' (cbv; first|refine .y ?_|refine .n ?_|refine .s (fun hc=>?_) fun hc=>?_|refine .x ?_|refine .r ?_|refine .e fun v hv=>?_|refine .a fun v hv=>?_|refine .d ?_|refine .u fun vr vn hvr hvn hvl=>?_|fail)
      all_goals (try cbv)
      all_goals first
        | (refine hQ _ ⟨?_,?_,?_,?_,?_⟩ <;> (try cbv) <;> (repeat' first|exact True.intro|exact rfl|assumption|exact FrR.mk rfl|exact FrS.mk rfl|(rw [hL]; rfl)|refine ⟨?_,?_⟩|fail))
        | (exfalso; omega)
end Go.Ab
