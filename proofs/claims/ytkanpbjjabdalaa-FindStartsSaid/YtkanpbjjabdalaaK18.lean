/-
  Small functions of the program and of Go's library: clones, comparisons, numbers that may be.
  The program's programs and timers: may they be?
-/
import Derived.Test.YtkanpbjjabdalaaK9
import Derived.Test.YtkanpbjjabdalaaK11
import Derived.Test.YtkanpbjjabdalaaK12
set_option linter.all false
namespace Go.Ab
open Go Go.Proofs
set_option maxRecDepth 100000
theorem r_CloneInstr (l:List ID) (hl:l.length≤1000000):CallsV Try.prog 83 [.sl false 2 (l.map jC)] (.own 2 (l.map jC)) [.undef] true:=by
  obtain ⟨ra,h_ra⟩ : ∃ r,r=l.map jC:=⟨_,rfl⟩
  have s_ra:V.shR ra=ra:=by rw [h_ra]; exact shR_jC l
  have l_ra:ra.length=l.length:=by simp [h_ra]
  rw [← h_ra]
  refine callsV_q hD Try.func83 ok83 rfl rfl (by simp only [List.map_cons,List.map_nil,V.sh,V.shL,stL,s_ra]) fun P Q hP hQ=>?_
  repeat' (cbv; first|refine .y ?_|refine .n ?_|refine .s (fun hc=>?_) fun hc=>?_|refine IfNil.split (fun hc=>?_) ?_|refine .a fun v hv=>?_|refine .d ?_|refine .u fun vr vn hvr hvn hvl=>?_|fail)
  all_goals (try cbv)
  · subst hc
    (refine hQ _ ?_; exact ⟨rfl,rfl,rfl,rfl,rfl⟩)
  · (subst_vars; refine hQ _ ?_; exact (Leave.own rfl rfl (by simp) (by simp [jC]) (by simp [okRows_app,okRows_cons,okRows_nil,V.fresh,fr_iC,fr_jC,fr_gC,fr_pC,fr_mC,fr_tC,fr_fC,fr_iCf]) rfl))
theorem r_CloneG (l:List GD) (hl:l.length≤1000000):CallsV Try.prog 84 [.sl false 5 (l.map gC)] (.own 5 (l.map gC)) [.undef] true:=by
  obtain ⟨ra,h_ra⟩ : ∃ r,r=l.map gC:=⟨_,rfl⟩
  have s_ra:V.shR ra=ra:=by rw [h_ra]; exact shR_gC l
  have l_ra:ra.length=l.length:=by simp [h_ra]
  rw [← h_ra]
  refine callsV_q hD Try.func84 ok84 rfl rfl (by simp only [List.map_cons,List.map_nil,V.sh,V.shL,stL,s_ra]) fun P Q hP hQ=>?_
  repeat' (cbv; first|refine .y ?_|refine .n ?_|refine .s (fun hc=>?_) fun hc=>?_|refine IfNil.split (fun hc=>?_) ?_|refine .a fun v hv=>?_|refine .d ?_|refine .u fun vr vn hvr hvn hvl=>?_|fail)
  all_goals (try cbv)
  · subst hc
    (refine hQ _ ?_; exact ⟨rfl,rfl,rfl,rfl,rfl⟩)
  · (subst_vars; refine hQ _ ?_; exact (Leave.own rfl rfl (by simp) (by simp [gC]) (by simp [okRows_app,okRows_cons,okRows_nil,V.fresh,fr_iC,fr_jC,fr_gC,fr_pC,fr_mC,fr_tC,fr_fC,fr_iCf]) rfl))
theorem r_CloneP (l:List PD) (hl:l.length≤1000000):CallsV Try.prog 85 [.sl false 13 (l.map pC)] (.own 13 (l.map pC)) [.undef] true:=by
  obtain ⟨ra,h_ra⟩ : ∃ r,r=l.map pC:=⟨_,rfl⟩
  have s_ra:V.shR ra=ra:=by rw [h_ra]; exact shR_pC l
  have l_ra:ra.length=l.length:=by simp [h_ra]
  rw [← h_ra]
  refine callsV_q hD Try.func85 ok85 rfl rfl (by simp only [List.map_cons,List.map_nil,V.sh,V.shL,stL,s_ra]) fun P Q hP hQ=>?_
  repeat' (cbv; first|refine .y ?_|refine .n ?_|refine .s (fun hc=>?_) fun hc=>?_|refine IfNil.split (fun hc=>?_) ?_|refine .a fun v hv=>?_|refine .d ?_|refine .u fun vr vn hvr hvn hvl=>?_|fail)
  all_goals (try cbv)
  · subst hc
    (refine hQ _ ?_; exact ⟨rfl,rfl,rfl,rfl,rfl⟩)
  · (subst_vars; refine hQ _ ?_; exact (Leave.own rfl rfl (by simp) (by simp [pC]) (by simp [okRows_app,okRows_cons,okRows_nil,V.fresh,fr_iC,fr_jC,fr_gC,fr_pC,fr_mC,fr_tC,fr_fC,fr_iCf]) rfl))
theorem r_CloneM (l:List MD) (hl:l.length≤1000000):CallsV Try.prog 86 [.sl false 2 (l.map mC)] (.own 2 (l.map mC)) [.undef] true:=by
  obtain ⟨ra,h_ra⟩ : ∃ r,r=l.map mC:=⟨_,rfl⟩
  have s_ra:V.shR ra=ra:=by rw [h_ra]; exact shR_mC l
  have l_ra:ra.length=l.length:=by simp [h_ra]
  rw [← h_ra]
  refine callsV_q hD Try.func86 ok86 rfl rfl (by simp only [List.map_cons,List.map_nil,V.sh,V.shL,stL,s_ra]) fun P Q hP hQ=>?_
  repeat' (cbv; first|refine .y ?_|refine .n ?_|refine .s (fun hc=>?_) fun hc=>?_|refine IfNil.split (fun hc=>?_) ?_|refine .a fun v hv=>?_|refine .d ?_|refine .u fun vr vn hvr hvn hvl=>?_|fail)
  all_goals (try cbv)
  · subst hc
    (refine hQ _ ?_; exact ⟨rfl,rfl,rfl,rfl,rfl⟩)
  · (subst_vars; refine hQ _ ?_; exact (Leave.own rfl rfl (by simp) (by simp [mC]) (by simp [okRows_app,okRows_cons,okRows_nil,V.fresh,fr_iC,fr_jC,fr_gC,fr_pC,fr_mC,fr_tC,fr_fC,fr_iCf]) rfl))
theorem r_CloneInt (l:List Int) (hl:l.length≤1000000):CallsV Try.prog 87 [.sl false 1 (l.map iC)] (.own 1 (l.map iC)) [.undef] true:=by
  obtain ⟨ra,h_ra⟩ : ∃ r,r=l.map iC:=⟨_,rfl⟩
  have s_ra:V.shR ra=ra:=by rw [h_ra]; exact shR_iC l
  have l_ra:ra.length=l.length:=by simp [h_ra]
  rw [← h_ra]
  refine callsV_q hD Try.func87 ok87 rfl rfl (by simp only [List.map_cons,List.map_nil,V.sh,V.shL,stL,s_ra]) fun P Q hP hQ=>?_
  repeat' (cbv; first|refine .y ?_|refine .n ?_|refine .s (fun hc=>?_) fun hc=>?_|refine IfNil.split (fun hc=>?_) ?_|refine .a fun v hv=>?_|refine .d ?_|refine .u fun vr vn hvr hvn hvl=>?_|fail)
  all_goals (try cbv)
  · subst hc
    (refine hQ _ ?_; exact ⟨rfl,rfl,rfl,rfl,rfl⟩)
  · (subst_vars; refine hQ _ ?_; exact (Leave.own rfl rfl (by simp) (by simp [iC]) (by simp [okRows_app,okRows_cons,okRows_nil,V.fresh,fr_iC,fr_jC,fr_gC,fr_pC,fr_mC,fr_tC,fr_fC,fr_iCf]) rfl))
theorem r_CloneT (l:List TD) (hl:l.length≤1000000):CallsV Try.prog 88 [.sl false 2 (l.map tC)] (.own 2 (l.map tC)) [.undef] true:=by
  obtain ⟨ra,h_ra⟩ : ∃ r,r=l.map tC:=⟨_,rfl⟩
  have s_ra:V.shR ra=ra:=by rw [h_ra]; exact shR_tC l
  have l_ra:ra.length=l.length:=by simp [h_ra]
  rw [← h_ra]
  refine callsV_q hD Try.func88 ok88 rfl rfl (by simp only [List.map_cons,List.map_nil,V.sh,V.shL,stL,s_ra]) fun P Q hP hQ=>?_
  repeat' (cbv; first|refine .y ?_|refine .n ?_|refine .s (fun hc=>?_) fun hc=>?_|refine IfNil.split (fun hc=>?_) ?_|refine .a fun v hv=>?_|refine .d ?_|refine .u fun vr vn hvr hvn hvl=>?_|fail)
  all_goals (try cbv)
  · subst hc
    (refine hQ _ ?_; exact ⟨rfl,rfl,rfl,rfl,rfl⟩)
  · (subst_vars; refine hQ _ ?_; exact (Leave.own rfl rfl (by simp) (by simp [tC]) (by simp [okRows_app,okRows_cons,okRows_nil,V.fresh,fr_iC,fr_jC,fr_gC,fr_pC,fr_mC,fr_tC,fr_fC,fr_iCf]) rfl))
theorem r_bad (n:Int) (b:Bool) (hb:b=decide (n < 0∨2305843009213693952≤n)):CallsV Try.prog 117 [.int .i64 n] (.bool b) [.undef] true:=by
  refine callsV_q hD Try.func117 ok117 rfl rfl rfl fun P Q hP hQ=>?_
  repeat' (cbv; first|refine .y ?_|refine .n ?_|refine .s (fun hc=>?_) fun hc=>?_|refine .a fun v hv=>?_|refine .d ?_|refine .u fun vr vn hvr hvn hvl=>?_|fail)
  all_goals (try cbv)
  · have hbe:b=true:=by rw [hb]; exact decide_eq_true (by omega)
    subst hbe; refine hQ _ ?_; exact ⟨rfl,rfl,rfl,rfl,rfl⟩
  · have hbe:b=true:=by rw [hb]; exact decide_eq_true (by omega)
    subst hbe; refine hQ _ ?_; exact ⟨rfl,rfl,rfl,rfl,rfl⟩
  · have hbe:b=false:=by rw [hb]; exact decide_eq_false (by omega)
    subst hbe; refine hQ _ ?_; exact ⟨rfl,rfl,rfl,rfl,rfl⟩
def badAt:Int→List Int→Int
  | _,[] => -1
  | i,x::l=>if x < 0∨2305843009213693952≤x then i else badAt (i+1) l
theorem can_bad:callable Try.prog 117=true:=by kernel_rfl
theorem r_Index (l:List Int) (hl:l.length≤1000000) (z:Int) (hz:z=badAt 0 l):CallsV Try.prog 111 [.sl false 1 (l.map iC),.fn 117 [] []] (.int .i64 z) [.undef,.undef] true:=by
  obtain ⟨ra,h_ra⟩ : ∃ r,r=l.map iC:=⟨_,rfl⟩
  have s_ra:V.shR ra=ra:=by rw [h_ra]; exact shR_iC l
  have l_ra:ra.length=l.length:=by simp [h_ra]
  rw [← h_ra]
  refine callsV_q hD Try.func111 ok111 rfl rfl (by simp only [List.map_cons,List.map_nil,V.sh,V.shL,stL,s_ra]) fun P Q hP hQ=>?_
  obtain ⟨m,hm⟩ : ∃ n:Int,0≤n∧n.toNat=ra.length:=⟨ra.length,by omega,by omega⟩
  repeat' (cbv; first|refine .y ?_|refine .n ?_|refine .s (fun hc=>?_) fun hc=>?_|refine Lt.to True.intro (show (ra.length:Int)=m by omega) ?_|refine .a fun v hv=>?_|refine .d ?_|refine .u fun vr vn hvr hvn hvl=>?_|fail)
  all_goals (try cbv)
  refine LoopQ.to (ι:=Int) (fun i=>⟨tab .undef [(0,.sl false 1 ra),(1,.fn 117 [] []),(7,.int .i64 m),(8,.int .i64 i)],tab .dead []⟩)
    (fun i=>0≤i∧i.toNat≤l.length∧z=badAt i (l.drop i.toNat)) (fun i=>l.length - i.toNat) 0 ⟨by omega,by omega,hz⟩ rfl fun i ⟨i0,i1,hi⟩ A hA=>?_
  rcases drop_cases i1 with ⟨e,hd⟩|⟨hlt,x,hd,hx⟩
  · rw [hd] at hi
    have hz1:z = -1:=hi
    clear hi
    subst hz1
    repeat' (cbv; first|refine .y ?_|refine .n ?_|refine .s (fun hc=>?_) fun hc=>?_|refine .a fun v hv=>?_|refine .d ?_|refine .u fun vr vn hvr hvn hvl=>?_|fail)
    all_goals (try cbv)
    (refine hQ _ ?_; exact ⟨rfl,rfl,rfl,rfl,rfl⟩)
  · rw [hd,badAt] at hi
    have ga:ra.getD i.toNat []=[.int .i64 x]:=getD_rows h_ra hx
    obtain ⟨b,hb⟩ : ∃ b,b=decide (x < 0∨2305843009213693952≤x):=⟨_,rfl⟩
    have cb:=r_bad x b hb
    cases b with
    | true =>
      rw [if_pos (by simpa using hb)] at hi
      subst hi
      try rw [← hP] at cb
      repeat' (cbv; first|refine .y ?_|refine .n ?_|refine .s (fun hc=>?_) fun hc=>?_|refine .row ga ?_|refine CanQ.to (hP ▸ can_bad) ?_|refine .gq cb ?_|refine .a fun v hv=>?_|refine .d ?_|refine .u fun vr vn hvr hvn hvl=>?_|fail)
      all_goals (try cbv)
      (refine hQ _ ?_; exact ⟨rfl,rfl,rfl,rfl,rfl⟩)
    | false =>
      rw [if_neg (by simpa using hb)] at hi
      try rw [← hP] at cb
      repeat' (cbv; first|refine .y ?_|refine .n ?_|refine .s (fun hc=>?_) fun hc=>?_|refine .row ga ?_|refine CanQ.to (hP ▸ can_bad) ?_|refine .gq cb ?_|refine .a fun v hv=>?_|refine .d ?_|refine .u fun vr vn hvr hvn hvl=>?_|fail)
      all_goals (try cbv)
      exact hA v _ ⟨by omega,by omega,by rw [hi,show v.toNat=i.toNat+1 by omega,hv]⟩ (by omega) rfl
theorem r_Contains (l:List Int) (hl:l.length≤1000000) (z:Int) (hz:z=badAt 0 l) (b:Bool) (hb:b=decide (0≤z)):CallsV Try.prog 116 [.sl false 1 (l.map iC),.fn 117 [] []] (.bool b) [.undef,.undef] true:=by
  have ci:=r_Index l hl z hz
  obtain ⟨ra,h_ra⟩ : ∃ r,r=l.map iC:=⟨_,rfl⟩
  have s_ra:V.shR ra=ra:=by rw [h_ra]; exact shR_iC l
  have l_ra:ra.length=l.length:=by simp [h_ra]
  rw [← h_ra] at ci ⊢
  refine callsV_q hD Try.func116 ok116 rfl rfl (by simp only [List.map_cons,List.map_nil,V.sh,V.shL,stL,s_ra]) fun P Q hP hQ=>?_
  try rw [← hP] at ci
  repeat' (cbv; first|refine .y ?_|refine .n ?_|refine .s (fun hc=>?_) fun hc=>?_|refine .gq ci ?_|refine .gq ci ?_|refine .a fun v hv=>?_|refine .d ?_|refine .u fun vr vn hvr hvn hvl=>?_|fail)
  all_goals (try cbv)
  · have hbe:b=true:=by rw [hb]; exact decide_eq_true (by omega)
    subst hbe; refine hQ _ ?_; exact ⟨rfl,rfl,rfl,rfl,rfl⟩
  · have hbe:b=false:=by rw [hb]; exact decide_eq_false (by omega)
    subst hbe; refine hQ _ ?_; exact ⟨rfl,rfl,rfl,rfl,rfl⟩
theorem r_fit (n:Int) (b:Bool) (hb:b=decide (0≤n∧n < 2305843009213693952)):CallsV Try.prog 107 [.sl false 1 [[.int .i64 n]]] (.bool b) [.undef] true:=by
  obtain ⟨c,hc⟩ : ∃ c,c=!b:=⟨_,rfl⟩
  have cc:=r_Contains [n] (by simp) _ rfl c (by
    rw [hc,hb,badAt,badAt]
    by_cases h:n < 0∨2305843009213693952≤n
    · rw [if_pos h,decide_eq_false (by omega)]; rfl
    · rw [if_neg h,decide_eq_true (by omega)]; rfl)
  simp only [List.map_cons,List.map_nil,iC] at cc
  clear hb
  refine callsV_q hD Try.func107 ok107 rfl rfl rfl fun P Q hP hQ=>?_
  cases b
  all_goals
    subst hc
    try rw [← hP] at cc
    repeat' (cbv; first|refine .y ?_|refine .n ?_|refine .s (fun hc=>?_) fun hc=>?_|refine .gq cc ?_|refine .a fun v hv=>?_|refine .d ?_|refine .u fun vr vn hvr hvn hvl=>?_|fail)
    all_goals (try cbv)
    (refine hQ _ ?_; exact ⟨rfl,rfl,rfl,rfl,rfl⟩)
theorem r_nan (n:Int):CallsV Try.prog 126 [.int .i64 n] (.bool false) [.undef] true:=by
  refine callsV_q hD Try.func126 ok126 rfl rfl rfl fun P Q hP hQ=>?_
  repeat' (cbv; first|refine .y ?_|refine .n ?_|refine .s (fun hc=>?_) fun hc=>?_|refine .a fun v hv=>?_|refine .d ?_|refine .u fun vr vn hvr hvn hvl=>?_|fail)
  all_goals (try cbv)
  (refine hQ _ ?_; exact ⟨rfl,rfl,rfl,rfl,rfl⟩)
def cmpI (a b:Int):Int:=if a < b then -1 else if b < a then 1 else 0
theorem r_cmp (a b z:Int) (hz:z=cmpI a b):CallsV Try.prog 125 [.int .i64 a,.int .i64 b] (.int .i64 z) [.undef,.undef] true:=by
  have n1:=r_nan a
  have n2:=r_nan b
  unfold cmpI at hz
  refine callsV_q hD Try.func125 ok125 rfl rfl rfl fun P Q hP hQ=>?_
  try rw [← hP] at n1
  try rw [← hP] at n2
  repeat' (cbv; first|refine .y ?_|refine .n ?_|refine .s (fun hc=>?_) fun hc=>?_|refine .gq n1 ?_|refine .gq n2 ?_|refine .a fun v hv=>?_|refine .d ?_|refine .u fun vr vn hvr hvn hvl=>?_|fail)
  all_goals (try cbv)
  · rw [if_pos (by omega)] at hz; subst hz; (refine hQ _ ?_; exact ⟨rfl,rfl,rfl,rfl,rfl⟩)
  · rw [if_neg (by omega),if_pos (by omega)] at hz; subst hz; (refine hQ _ ?_; exact ⟨rfl,rfl,rfl,rfl,rfl⟩)
  · rw [if_neg (by omega),if_neg (by omega)] at hz; subst hz; (refine hQ _ ?_; exact ⟨rfl,rfl,rfl,rfl,rfl⟩)
theorem r_Or (a b z:Int) (hz:z=if a≠0 then a else b):CallsV Try.prog 124 [.sl false 1 [[.int .i64 a],[.int .i64 b]]] (.int .i64 z) [.undef] true:=by
  refine callsV_q hD Try.func124 ok124 rfl rfl rfl fun P Q hP hQ=>?_
  repeat' (cbv; first|refine .y ?_|refine .n ?_|refine .s (fun hc=>?_) fun hc=>?_|refine Lt.to True.intro (rfl:((2:Nat):Int)=2) ?_|refine .a fun v hv=>?_|refine .d ?_|refine .u fun vr vn hvr hvn hvl=>?_|fail)
  all_goals (try cbv)
  refine LoopQ.to (ι:=Int) (fun i=>⟨tab .undef [(3,.int .i64 0),(6,.sl false 1 [[.int .i64 a],[.int .i64 b]]),(7,.int .i64 2),(8,.int .i64 i)],tab .dead []⟩)
    (fun i=>(i=0)∨(i=1∧a=0)∨(i=2∧a=0∧b=0)) (fun i=>(2 - i).toNat) 0 (.inl rfl) rfl fun i hi A hA=>?_
  rcases hi with rfl|⟨rfl,h1⟩|⟨rfl,h1,h2⟩
  · repeat' (cbv; first|refine .y ?_|refine .n ?_|refine .s (fun hc=>?_) fun hc=>?_|refine Lt.to ⟨rfl,by omega,by simp⟩ (v:=[.int .i64 a]) rfl ?_|refine .a fun v hv=>?_|refine .d ?_|refine .u fun vr vn hvr hvn hvl=>?_|fail)
    all_goals (try cbv)
    all_goals first
      | (exact hA v _ (.inr (.inl ⟨hv,by omega⟩)) (by omega) rfl)
      | (rw [if_pos (by omega)] at hz; subst hz; (refine hQ _ ?_; exact ⟨rfl,rfl,rfl,rfl,rfl⟩))
  · repeat' (cbv; first|refine .y ?_|refine .n ?_|refine .s (fun hc=>?_) fun hc=>?_|refine Lt.to ⟨rfl,by omega,by simp⟩ (v:=[.int .i64 b]) rfl ?_|refine .a fun v hv=>?_|refine .d ?_|refine .u fun vr vn hvr hvn hvl=>?_|fail)
    all_goals (try cbv)
    all_goals first
      | (exact hA v _ (.inr (.inr ⟨hv,h1,by omega⟩)) (by omega) rfl)
      | (rw [if_neg (by omega)] at hz; subst hz; (refine hQ _ ?_; exact ⟨rfl,rfl,rfl,rfl,rfl⟩))
  · repeat' (cbv; first|refine .y ?_|refine .n ?_|refine .s (fun hc=>?_) fun hc=>?_|refine .a fun v hv=>?_|refine .d ?_|refine .u fun vr vn hvr hvn hvl=>?_|fail)
    all_goals (try cbv)
    rw [if_neg (by omega),h2] at hz; subst hz; (refine hQ _ ?_; exact ⟨rfl,rfl,rfl,rfl,rfl⟩)
def cmpT (x y:TD):Int:=if cmpI x.t y.t≠0 then cmpI x.t y.t else cmpI x.g y.g
theorem r_compare (x y:TD) (z:Int) (hz:z=cmpT x y):CallsV Try.prog 118 [.agg (tC x),.agg (tC y)] (.int .i64 z) [.undef,.undef] true:=by
  obtain ⟨xt,xg⟩:=x
  obtain ⟨yt,yg⟩:=y
  unfold cmpT at hz
  dsimp only at hz
  obtain ⟨a,ha⟩ : ∃ a,a=cmpI xt yt:=⟨_,rfl⟩
  obtain ⟨b,hb⟩ : ∃ b,b=cmpI xg yg:=⟨_,rfl⟩
  rw [← ha,← hb] at hz
  have ca:=r_cmp xt yt a ha
  have cb:=r_cmp xg yg b hb
  have co:=r_Or a b z hz
  clear hz ha hb
  refine callsV_q hD Try.func118 ok118 rfl rfl rfl fun P Q hP hQ=>?_
  try rw [← hP] at ca
  try rw [← hP] at cb
  try rw [← hP] at co
  repeat' (cbv; first|refine .y ?_|refine .n ?_|refine .s (fun hc=>?_) fun hc=>?_|refine .gq ca ?_|refine .gq cb ?_|refine .gq co ?_|refine .a fun v hv=>?_|refine .d ?_|refine .u fun vr vn hvr hvn hvl=>?_|fail)
  all_goals (try cbv)
  (refine hQ _ ?_; exact ⟨rfl,rfl,rfl,rfl,rfl⟩)
end Go.Ab

namespace Go.Ab
open Go Go.Proofs
set_option maxRecDepth 100000
theorem r_sh1 (p:List (List ID)) (hp:p.length≤1000000) (z:Int) (hz:z=(p.length:Int) - 1):CallsV Try.prog 120 [.sl false 1 (p.map fC)] (.int .i64 z) [.undef] true:=by
  obtain ⟨n,hn⟩ : ∃ n:Int,0≤n∧n.toNat=p.length:=⟨p.length,by omega,by omega⟩
  rw [show (p.length:Int)=n by omega] at hz
  obtain ⟨ra,h_ra⟩ : ∃ r,r=p.map fC:=⟨_,rfl⟩
  have s_ra:V.shR ra=ra:=by rw [h_ra]; exact shR_fC p
  have l_ra:ra.length=p.length:=by simp [h_ra]
  rw [← h_ra]
  refine callsV_q hD Try.func120 ok120 rfl rfl (by simp only [List.map_cons,List.map_nil,V.sh,V.shL,stL,s_ra]) fun P Q hP hQ=>?_
  repeat' (cbv; first|refine .y ?_|refine .n ?_|refine .s (fun hc=>?_) fun hc=>?_|refine .a fun v hv=>?_|refine .d ?_|refine .u fun vr vn hvr hvn hvl=>?_|fail)
  all_goals (try cbv)
  have hbe:z=v:=by omega
  subst hbe
  (refine hQ _ ?_; exact ⟨rfl,rfl,rfl,rfl,rfl⟩)
theorem r_sh2 (p:List (List ID)):CallsV Try.prog 121 [.sl false 1 (p.map fC)] (.int .i64 3) [.undef] true:=by
  obtain ⟨ra,h_ra⟩ : ∃ r,r=p.map fC:=⟨_,rfl⟩
  have s_ra:V.shR ra=ra:=by rw [h_ra]; exact shR_fC p
  have l_ra:ra.length=p.length:=by simp [h_ra]
  rw [← h_ra]
  refine callsV_q hD Try.func121 ok121 rfl rfl (by simp only [List.map_cons,List.map_nil,V.sh,V.shL,stL,s_ra]) fun P Q hP hQ=>?_
  repeat' (cbv; first|refine .y ?_|refine .n ?_|refine .s (fun hc=>?_) fun hc=>?_|refine .a fun v hv=>?_|refine .d ?_|refine .u fun vr vn hvr hvn hvl=>?_|fail)
  all_goals (try cbv)
  (refine hQ _ ?_; exact ⟨rfl,rfl,rfl,rfl,rfl⟩)
theorem r_sh3 (p:List (List ID)):CallsV Try.prog 122 [.sl false 1 (p.map fC)] (.int .i64 1000) [.undef] true:=by
  obtain ⟨ra,h_ra⟩ : ∃ r,r=p.map fC:=⟨_,rfl⟩
  have s_ra:V.shR ra=ra:=by rw [h_ra]; exact shR_fC p
  have l_ra:ra.length=p.length:=by simp [h_ra]
  rw [← h_ra]
  refine callsV_q hD Try.func122 ok122 rfl rfl (by simp only [List.map_cons,List.map_nil,V.sh,V.shL,stL,s_ra]) fun P Q hP hQ=>?_
  repeat' (cbv; first|refine .y ?_|refine .n ?_|refine .s (fun hc=>?_) fun hc=>?_|refine .a fun v hv=>?_|refine .d ?_|refine .u fun vr vn hvr hvn hvl=>?_|fail)
  all_goals (try cbv)
  (refine hQ _ ?_; exact ⟨rfl,rfl,rfl,rfl,rfl⟩)
theorem r_sh4 (p:List (List ID)):CallsV Try.prog 123 [.sl false 1 (p.map fC)] (.int .i64 0) [.undef] true:=by
  obtain ⟨ra,h_ra⟩ : ∃ r,r=p.map fC:=⟨_,rfl⟩
  have s_ra:V.shR ra=ra:=by rw [h_ra]; exact shR_fC p
  have l_ra:ra.length=p.length:=by simp [h_ra]
  rw [← h_ra]
  refine callsV_q hD Try.func123 ok123 rfl rfl (by simp only [List.map_cons,List.map_nil,V.sh,V.shL,stL,s_ra]) fun P Q hP hQ=>?_
  repeat' (cbv; first|refine .y ?_|refine .n ?_|refine .s (fun hc=>?_) fun hc=>?_|refine .a fun v hv=>?_|refine .d ?_|refine .u fun vr vn hvr hvn hvl=>?_|fail)
  all_goals (try cbv)
  (refine hQ _ ?_; exact ⟨rfl,rfl,rfl,rfl,rfl⟩)
def shapesL:List V :=
  [.str ⟨#[119,111,114,107]⟩,.bool false,.fn 123 [] [],.str ⟨#[115,112,97,119,110]⟩,.bool true,.fn 120 [] [],.str ⟨#[121,105,101,108,100]⟩,.bool false,.fn 123 [] [],
    .str ⟨#[97,99,113,117,105,114,101]⟩,.bool true,.fn 121 [] [],.str ⟨#[114,101,108,101,97,115,101]⟩,.bool true,.fn 121 [] [],.str ⟨#[115,121,115]⟩,.bool false,.fn 123 [] [],
    .str ⟨#[115,108,101,101,112]⟩,.bool true,.fn 122 [] []]
theorem r_shapes:CallsV Try.prog 115 [] (.agg shapesL) [] true:=by
  refine callsV_q hD Try.func115 ok115 rfl rfl rfl fun P Q hP hQ=>?_
  repeat' (cbv; first|refine .y ?_|refine .n ?_|refine .s (fun hc=>?_) fun hc=>?_|refine .a fun v hv=>?_|refine .d ?_|refine .u fun vr vn hvr hvn hvl=>?_|fail)
  all_goals (try cbv)
  (refine hQ _ ?_; exact ⟨rfl,rfl,rfl,rfl,rfl⟩)
theorem can_sh1:callable Try.prog 120=true:=by kernel_rfl
theorem can_sh2:callable Try.prog 121=true:=by kernel_rfl
theorem can_sh3:callable Try.prog 122=true:=by kernel_rfl
theorem can_sh4:callable Try.prog 123=true:=by kernel_rfl
set_option maxHeartbeats 8000000 in
theorem c106 (p : List (List ID)) (hp:p.length≤1000000) (hf:∀ f∈p,f.length≤1000000) (b:Bool) (hb:b=mayP p):CallsV Try.prog 106 [.sl false 1 (p.map fC)] (.bool b) [.undef] true:=by
  obtain ⟨n,hn⟩ : ∃ n:Int,0≤n∧n.toNat=p.length:=⟨p.length,by omega,by omega⟩
  have hnc:(p.length:Int)=n:=by omega
  obtain ⟨z,hz⟩ : ∃ z:Int,z=n - 1:=⟨_,rfl⟩
  have k1:=r_sh1 p hp z (by rw [hnc,hz])
  have k2:=r_sh2 p
  have k3:=r_sh3 p
  have k4:=r_sh4 p
  obtain ⟨ra,h_ra⟩ : ∃ r,r=p.map fC:=⟨_,rfl⟩
  have s_ra:V.shR ra=ra:=by rw [h_ra]; exact shR_fC p
  have l_ra:ra.length=p.length:=by simp [h_ra]
  rw [← h_ra] at k1 k2 k3 k4 ⊢
  refine callsV_q hD Try.func106 ok106 rfl rfl (by simp only [List.map_cons,List.map_nil,V.sh,V.shL,stL,s_ra]) fun P Q hP hQ=>?_
  unfold mayP at hb
  rw [hnc] at hb
  have hmz:0≤n∧n.toNat=ra.length:=⟨hn.1,by omega⟩
  by_cases hl:1≤p.length∧p.length≤8
  · rw [decide_eq_true hl,Bool.true_and] at hb
    repeat' (cbv; first|refine .y ?_|refine .n ?_|refine .s (fun hc=>?_) fun hc=>?_|refine Lt.to True.intro (show (ra.length:Int)=n by omega) ?_|refine .gq (hP ▸ r_shapes) ?_|refine .a fun v hv=>?_|refine .d ?_|refine .u fun vr vn hvr hvn hvl=>?_|fail)
    all_goals (try cbv)
    refine LoopQ.to (ι:=Int) (fun i=>⟨tab .undef [(0,.sl false 1 ra),(3,.ptr 100 0),(17,.sl false 1 ra),(18,.int .i64 n),(19,.int .i64 i)],tab .dead [(100,.box shapesL)]⟩)
      (fun i=>0≤i∧i.toNat≤p.length∧b=(p.drop i.toNat).all fun f=>decide (f.length≤20)&&f.all (okI n)) (fun i=>p.length - i.toNat) 0 ⟨by omega,by omega,hb⟩ rfl fun i ⟨i0,i1,hi⟩ A hA=>?_
    clear hb
    rcases drop_cases i1 with ⟨e,hd⟩|⟨hlt,f,hd,hx⟩
    · rw [hd] at hi
      repeat' (cbv; first|refine .y ?_|refine .n ?_|refine .s (fun hc=>?_) fun hc=>?_|refine .a fun v hv=>?_|refine .d ?_|refine .u fun vr vn hvr hvn hvl=>?_|fail)
      all_goals (try cbv)
      have hbe:b=true:=by rw [hi]; rfl
      subst hbe; refine hQ _ ?_; exact ⟨rfl,rfl,rfl,rfl,rfl⟩
    · rw [hd, List.all_cons] at hi
      have ga:=getD_rows h_ra hx
      have lf:=hf f (mem_of_get hx)
      obtain ⟨rf,h_rf⟩ : ∃ r,r=f.map jC:=⟨_,rfl⟩
      have s_rf:V.shR rf=rf:=by rw [h_rf]; exact shR_jC f
      have l_rf:rf.length=f.length:=by simp [h_rf]
      have ga':ra.getD i.toNat []=[.sl false 2 rf]:=by rw [ga,h_rf]; rfl
      clear hf hx hd
      by_cases hl2:f.length≤20
      · rw [decide_eq_true hl2,Bool.true_and] at hi
        obtain ⟨T,hT⟩ : ∃ T,T=(p.drop (i.toNat+1)).all fun f=>decide (f.length≤20)&&f.all (okI n):=⟨_,rfl⟩
        rw [← hT] at hi
        obtain ⟨m,hm0,hm⟩ : ∃ n:Int,0≤n∧n.toNat=rf.length:=⟨rf.length,by omega,by omega⟩
        repeat' (cbv; first|refine .y ?_|refine .n ?_|refine .s (fun hc=>?_) fun hc=>?_|refine Lt.to True.intro (show (rf.length:Int)=m by omega) ?_|refine .row ga' ?_|refine .a fun v hv=>?_|refine .d ?_|refine .u fun vr vn hvr hvn hvl=>?_|fail)
        all_goals (try cbv)
        refine LoopQ.to (ι:=Int) (fun k=>⟨tab .undef [(0,.sl false 1 ra),(3,.ptr 100 0),(17,.sl false 1 ra),(18,.int .i64 n),(19,.int .i64 i),(26,.sl false 2 rf),(27,.int .i64 m),(28,.int .i64 k)],tab .dead [(100,.box shapesL)]⟩)
          (fun k=>0≤k∧k.toNat≤f.length∧b=((f.drop k.toNat).all (okI n)&&T)) (fun k=>f.length - k.toNat) 0 ⟨by omega,by omega,hi⟩ rfl fun k ⟨k0,k1',hk⟩ B hB=>?_
        clear hi
        rcases drop_cases k1' with ⟨e,hd'⟩|⟨hlt',x,hd',hx'⟩
        · rw [hd',List.all_nil,Bool.true_and,hT] at hk
          repeat' (cbv; first|refine .y ?_|refine .n ?_|refine .s (fun hc=>?_) fun hc=>?_|refine .a fun v hv=>?_|refine .d ?_|refine .u fun vr vn hvr hvn hvl=>?_|fail)
          all_goals (try cbv)
          exact hA _ _ ⟨by omega,by omega,by rw [hk,show v.toNat=i.toNat+1 by omega]⟩ (by omega) rfl
        · rw [hd', List.all_cons] at hk
          have gf:=getD_rows h_rf hx'
          obtain ⟨xd,xa⟩:=x
          clear hd' hx' hT ga ga' hA
          by_cases hdr:0≤xd∧xd≤6∧0≤xa
          · rcases (show xd=0∨xd=1∨xd=2∨xd=3∨xd=4∨xd=5∨xd=6 by omega) with e|e|e|e|e|e|e <;> subst e
            all_goals
              simp only [okI,mostI,Int.reduceEq,if_true,if_false,or_false,false_or,or_true,true_or,or_self] at hk
              try rw [← hP] at k1
              try rw [← hP] at k2
              try rw [← hP] at k3
              try rw [← hP] at k4
              repeat' (cbv; first|refine .y ?_|refine .n ?_|refine .s (fun hc=>?_) fun hc=>?_|refine .row gf ?_|refine CanQ.to (hP ▸ can_sh1) ?_|refine CanQ.to (hP ▸ can_sh2) ?_|refine CanQ.to (hP ▸ can_sh3) ?_|refine CanQ.to (hP ▸ can_sh4) ?_|refine .gq k1 ?_|refine .gq k2 ?_|refine .gq k3 ?_|refine .gq k4 ?_|refine .a fun v hv=>?_|refine .d ?_|refine .u fun vr vn hvr hvn hvl=>?_|fail)
              all_goals (try cbv)
              all_goals first
                | (have hbe:b=false:=by rw [hk,decide_eq_false (by omega)]; rfl
                   subst hbe; (refine hQ _ ?_; exact ⟨rfl,rfl,rfl,rfl,rfl⟩))
                | (rw [decide_eq_true (by omega),Bool.true_and] at hk
                   exact hB _ _ ⟨by omega,by omega,by rw [hk,show v.toNat=k.toNat+1 by omega]⟩ (by omega) rfl)
          · rw [show okI n ⟨xd,xa⟩=false from decide_eq_false (by dsimp only; omega),Bool.false_and,Bool.false_and] at hk
            repeat' (cbv; first|refine .y ?_|refine .n ?_|refine .s (fun hc=>?_) fun hc=>?_|refine .row gf ?_|refine .a fun v hv=>?_|refine .d ?_|refine .u fun vr vn hvr hvn hvl=>?_|fail)
            all_goals (try cbv)
            all_goals first
              | (have hbe:b=false:=hk
                 subst hbe; (refine hQ _ ?_; exact ⟨rfl,rfl,rfl,rfl,rfl⟩))
              | (exfalso; omega)
      · rw [decide_eq_false hl2,Bool.false_and,Bool.false_and] at hi
        repeat' (cbv; first|refine .y ?_|refine .n ?_|refine .s (fun hc=>?_) fun hc=>?_|refine .row ga' ?_|refine .a fun v hv=>?_|refine .d ?_|refine .u fun vr vn hvr hvn hvl=>?_|fail)
        all_goals (try cbv)
        have hbe:b=false:=by exact hi
        subst hbe; refine hQ _ ?_; exact ⟨rfl,rfl,rfl,rfl,rfl⟩
  · rw [decide_eq_false hl,Bool.false_and] at hb
    repeat' (cbv; first|refine .y ?_|refine .n ?_|refine .s (fun hc=>?_) fun hc=>?_|refine .a fun v hv=>?_|refine .d ?_|refine .u fun vr vn hvr hvn hvl=>?_|fail)
    all_goals (try cbv)
    all_goals first
      | (have hbe:b=false:=hb
         subst hbe; (refine hQ _ ?_; exact ⟨rfl,rfl,rfl,rfl,rfl⟩))
      | (exfalso; omega)
end Go.Ab
