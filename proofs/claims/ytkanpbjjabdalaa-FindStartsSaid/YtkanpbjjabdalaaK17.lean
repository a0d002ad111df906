/-
  A map of places, as data: what it holds behind some puts.
  A G's status, by where it is: the program.
  The plain law of places: the program's map of places says what the document's counts say.
-/
import Derived.Test.YtkanpbjjabdalaaK16
set_option linter.all false
namespace Go.Ab
open Go Go.Proofs
set_option maxRecDepth 100000
abbrev PM:=List (Int×List (Int×Int))
def kM (M:PM):List V:=M.map fun e=>.int .i64 e.1
def vM (M:PM):List V:=M.map fun e=>.own 2 (e.2.map plC)
def addM:PM→Int×Int×Int→PM
  | [],x=>[(x.1,[x.2])]
  | e::M,x=>if e.1=x.1 then (e.1,e.2 ++ [x.2])::M else e::addM M x
def addL (M:PM) (L:List (Int×Int×Int)):PM:=L.foldl addM M
def findM:PM→Int→Option (List (Int×Int))
  | [],_=>none
  | e::M,g=>if e.1=g then some e.2 else findM M g
def sizeM (M:PM):Nat:=(M.map fun e=>e.2.length).sum
theorem find_kv (M:PM) (g:Int):mfind (.int .i64 g) (kM M) (vM M)=(findM M g).map fun l=>.own 2 (l.map plC):=by
  unfold mfind
  induction M with
  | nil=>rfl
  | cons e M ih =>
    simp only [kM,vM,List.map_cons,midx,findM] at ih ⊢
    by_cases h:e.1=g
    · have e1:(V.int .i64 g).keyIs (.int .i64 e.1)=true:=by simp [V.keyIs,h]
      rw [if_pos e1,if_pos h]; rfl
    · have e1:¬ (V.int .i64 g).keyIs (.int .i64 e.1)=true:=by simp [V.keyIs]; omega
      rw [if_neg e1,if_neg h,← ih]
      cases midx (.int .i64 g) (M.map fun e=>V.int .i64 e.1) <;> simp
theorem size_find {M:PM} {g:Int} {l:List (Int×Int)} (h:findM M g=some l):l.length≤sizeM M:=by
  induction M with
  | nil=>cases h
  | cons e M ih =>
    simp only [findM] at h
    simp only [sizeM,List.map_cons,List.sum_cons] at ih ⊢
    split at h
    · cases h; omega
    · have:=ih h; omega
theorem size_add (M:PM) (x:Int×Int×Int):sizeM (addM M x)=sizeM M+1:=by
  induction M with
  | nil=>rfl
  | cons e M ih =>
    simp only [addM]
    split
    · simp only [sizeM,List.map_cons,List.sum_cons,List.length_append,List.length_cons,List.length_nil]; omega
    · simp only [sizeM,List.map_cons,List.sum_cons] at ih ⊢; omega
theorem mput_add (M:PM) (g:Int) (p:Int×Int) (l:List (Int×Int)) (hl:(findM M g).getD []=l) :
    mput (.int .i64 g) (.own 2 (l.map plC ++ [plC p])) (kM M) (vM M)=(kM (addM M (g,p)),vM (addM M (g,p))):=by
  induction M with
  | nil =>
    simp only [findM,Option.getD_none] at hl
    subst hl
    rfl
  | cons e M ih =>
    simp only [findM] at hl
    simp only [mput,kM,vM,List.map_cons,midx,addM] at ih ⊢
    by_cases h:e.1=g
    · have e1:(V.int .i64 g).keyIs (.int .i64 e.1)=true:=by simp [V.keyIs,h]
      rw [if_pos h] at hl
      simp only [Option.getD_some] at hl
      subst hl
      rw [if_pos e1,if_pos h]
      simp [h]
    · have e1:¬ (V.int .i64 g).keyIs (.int .i64 e.1)=true:=by simp [V.keyIs]; omega
      rw [if_neg h] at hl
      have ih:=ih hl
      rw [if_neg e1,if_neg h]
      cases hm:midx (.int .i64 g) (M.map fun e=>V.int .i64 e.1) with
      | none =>
        rw [hm] at ih
        simp only [Prod.mk.injEq] at ih
        simp [ih.1,ih.2]
      | some j =>
        rw [hm] at ih
        simp only [Prod.mk.injEq] at ih
        simp [ih.1,ih.2]
theorem grow_add (M:PM) (g k n:Int):mgrow g k n (kM M) (vM M)=(kM (addM M (g,k,n)),vM (addM M (g,k,n))):=by
  unfold mgrow
  have h:(rows2 (mfind (.int .i64 g) (kM M) (vM M))).getD []=((findM M g).getD []).map plC:=by
    rw [find_kv]
    cases findM M g <;> rfl
  rw [h]
  exact mput_add M g (k,n) _ rfl
theorem grow_need {P:Program} {f:FuncId} (hp:PutC P f) (M:PM) (g:Int) (hM:sizeM M≤1000000000000) :
    PutC P f∧(∀ y∈kM M,(V.int .i64 0).keyLike y=true)∧∃ rows,rows2 (mfind (.int .i64 g) (kM M) (vM M))=some rows∧(rows.length+1) * 16≤140737488355328:=by
  refine ⟨hp,fun y hy=>?_,?_⟩
  · obtain ⟨e,_,rfl⟩:=List.mem_map.1 hy
    rfl
  · rw [find_kv]
    cases h:findM M g with
    | none=>exact ⟨[],rfl,by simp⟩
    | some l =>
      have:=size_find h
      exact ⟨_,rfl,by simp; omega⟩
def Go' (F M:PM) (L:List (Int×Int×Int)):Prop:=F=addL M L∧sizeM M+L.length≤100000000000
theorem Go'.step {F M:PM} {x:Int×Int×Int} {L:List (Int×Int×Int)} (h:Go' F M (x::L)):Go' F (addM M x) L:=by
  refine ⟨h.1,?_⟩
  have:=h.2
  rw [size_add]; simp only [List.length_cons] at this; omega
theorem size_addL (M:PM):∀ L:List (Int×Int×Int),sizeM (addL M L)=sizeM M+L.length:=by
  intro L
  induction L generalizing M with
  | nil=>rfl
  | cons x L ih=>simp only [addL,List.foldl_cons,List.length_cons] at ih ⊢; rw [ih,size_add]; omega
theorem Go'.many {F M:PM} {K L:List (Int×Int×Int)} (h:Go' F M (K ++ L)):Go' F (addL M K) L:=by
  refine ⟨by rw [h.1]; simp [addL],?_⟩
  have:=h.2
  rw [size_addL]; simp only [List.length_append] at this; omega
theorem Go'.put {P:Program} {f:FuncId} (hp:PutC P f) {_F M:PM} {ks vs:List V} (hk:ks=kM M) (hv:vs=vM M) (hs:sizeM M≤1000000000000) (g k n:Int) :
    ∃ M' ks' vs',M'=addM M (g,k,n)∧ks'=kM M'∧vs'=vM M'∧mgrow g k n ks vs=(ks',vs') ∧
      (PutC P f∧(∀ y∈ks,(V.int .i64 0).keyLike y=true)∧∃ rows,rows2 (mfind (.int .i64 g) ks vs)=some rows∧(rows.length+1) * 16≤140737488355328):=by
  subst hk hv
  exact ⟨_,_,_,rfl,rfl,rfl,grow_add M g k n,grow_need hp M g hs⟩
def putsP (i:Int) (p:PD):List (Int×Int×Int):=(if p.nx=0 then [] else [(p.nx,1,i+1)]) ++ (listR p.r).map fun g=>(g,2,i+1)
def putsPs:Int→List PD→List (Int×Int×Int)
  | _,[]=>[]
  | i,p::l=>putsP i p ++ putsPs (i+1) l
def putsK (k n:Int) (l:List Int):List (Int×Int×Int):=l.map fun g=>(g,k,n)
def putsT (l:List TD):List (Int×Int×Int):=l.map fun t=>(t.g,6,0)
def putsM1 (i:Int) (m:MD):List (Int×Int×Int):=if m.g≠0 then (if m.p≠0 then [(m.g,4,i+1)] else [(m.g,7,i+1)]) else []
def putsMs:Int→List MD→List (Int×Int×Int)
  | _,[]=>[]
  | i,m::l=>putsM1 i m ++ putsMs (i+1) l
def putsG1 (i:Int) (g:GD):List (Int×Int×Int):=if g.st=5 then [(i+1,8,0)] else []
def putsGs:Int→List GD→List (Int×Int×Int)
  | _,[]=>[]
  | i,g::l=>putsG1 i g ++ putsGs (i+1) l
def putsR (s:SD):List (Int×Int×Int):=putsT s.ts ++ (putsMs 0 s.ms ++ putsGs 0 s.gs)
def putsW (s:SD):List (Int×Int×Int):=putsK 5 0 s.w0 ++ (putsK 5 1 s.w1 ++ (putsK 5 2 s.w2 ++ (putsK 5 3 s.w3 ++ putsR s)))
def puts (s:SD):List (Int×Int×Int):=putsPs 0 s.ps ++ (putsK 3 0 s.gl ++ putsW s)
def allM (s:SD):PM:=addL [] (puts s)
theorem putsPs_len:∀ (l:List PD) (i:Int),(putsPs i l).length≤l.length * 9
  | [],_=>by simp [putsPs]
  | p::l,i=>by
    have:=putsPs_len l (i+1)
    have:=listR_len p.r
    simp only [putsPs,putsP,List.length_append,List.length_map,List.length_cons]
    split <;> simp <;> omega
theorem putsMs_len:∀ (l:List MD) (i:Int),(putsMs i l).length≤l.length
  | [],_=>by simp [putsMs]
  | p::l,i=>by
    have:=putsMs_len l (i+1)
    simp only [putsMs,putsM1,List.length_append,List.length_cons]
    repeat' split
    all_goals simp
    all_goals omega
theorem putsGs_len:∀ (l:List GD) (i:Int),(putsGs i l).length≤l.length
  | [],_=>by simp [putsGs]
  | p::l,i=>by
    have:=putsGs_len l (i+1)
    simp only [putsGs,putsG1,List.length_append,List.length_cons]
    repeat' split
    all_goals simp
    all_goals omega
theorem puts_len {s:SD} (h:Fit s):(puts s).length≤20000000:=by
  have:=putsPs_len s.ps 0
  have:=putsMs_len s.ms 0
  have:=putsGs_len s.gs 0
  have:=h.ps; have:=h.gs; have:=h.ms; have:=h.gl; have:=h.w0; have:=h.w1; have:=h.w2; have:=h.w3; have:=h.ts
  unfold puts putsW putsR putsT putsK
  simp only [List.length_append,List.length_map]
  omega
end Go.Ab

namespace Go.Ab
open Go Go.Proofs
set_option maxRecDepth 100000
def statusOf (k:Int):Int:=if k=1∨k=2∨k=3 then 1 else if k=4 then 2 else if k=5∨k=6 then 3 else if k=7 then 4 else 5
theorem c81 (p:Int×Int) (z:Int) (hz:z=statusOf p.1):CallsV Try.prog 81 [.agg (plC p)] (.int .i64 z) [.undef] true:=by
  obtain ⟨k,n⟩:=p
  unfold statusOf at hz
  dsimp only at hz
  refine callsV_q hD Try.func81 ok81 rfl rfl rfl fun P Q hP hQ=>?_
  repeat' (cbv; first|refine .y ?_|refine .n ?_|refine .s (fun hc=>?_) fun hc=>?_|refine .a fun v hv=>?_|refine .d ?_|refine .u fun vr vn hvr hvn hvl=>?_|fail)
  all_goals (try cbv)
  all_goals
    repeat' split at hz
    all_goals first
      | (exfalso; omega)
      | (subst hz; (refine hQ _ ?_; exact ⟨rfl,rfl,rfl,rfl,rfl⟩))
end Go.Ab

namespace Go.Ab
open Go Go.Proofs
theorem find_add (M:PM) (x:Int×Int×Int) (g:Int):findM (addM M x) g=if x.1=g then some ((findM M g).getD [] ++ [x.2]) else findM M g:=by
  induction M with
  | nil=>simp only [addM,findM]; split <;> simp
  | cons e M ih =>
    simp only [addM]
    by_cases h1:e.1=x.1
    · rw [if_pos h1]
      simp only [findM]
      by_cases h2:e.1=g
      · rw [if_pos h2,if_pos (h1 ▸ h2),if_pos h2]; rfl
      · rw [if_neg h2,if_neg (h1 ▸ h2),if_neg h2]
    · rw [if_neg h1]
      simp only [findM,ih]
      by_cases h2:e.1=g
      · rw [if_pos h2,if_neg (fun q=>h1 (h2.trans q.symm)),if_pos h2]
      · rw [if_neg h2,if_neg h2]
def atL (L:List (Int×Int×Int)) (g:Int):List (Int×Int):=(L.filter fun x=>decide (x.1=g)).map (·.2)
theorem find_addL (L:List (Int×Int×Int)) (g:Int):∀ M:PM,findM (addL M L) g=if atL L g=[] then findM M g else some ((findM M g).getD [] ++ atL L g):=by
  induction L with
  | nil=>intro M; rfl
  | cons x L ih =>
    intro M
    show findM (addL (addM M x) L) g=_
    rw [ih,find_add]
    by_cases h:x.1=g
    · have e:atL (x::L) g=x.2::atL L g:=by simp [atL,h]
      rw [if_pos h,e]
      by_cases h2:atL L g=[]
      · rw [if_pos h2,if_neg (by simp),h2]
      · rw [if_neg h2,if_neg (by simp)]; simp
    · have e:atL (x::L) g=atL L g:=by simp [atL,h]
      rw [if_neg h,e]
theorem find_all (L:List (Int×Int×Int)) (g:Int):findM (addL [] L) g=if atL L g=[] then none else some (atL L g):=by
  rw [find_addL]
  rfl
def keysM (M:PM):List Int:=M.map (·.1)
theorem keys_add (M:PM) (x:Int×Int×Int):keysM (addM M x)=if x.1∈keysM M then keysM M else keysM M ++ [x.1]:=by
  induction M with
  | nil=>rfl
  | cons e M ih =>
    simp only [addM]
    by_cases h:e.1=x.1
    · rw [if_pos h,if_pos (by simp [keysM,h])]; rfl
    · rw [if_neg h]
      have:keysM (e::addM M x)=e.1::keysM (addM M x):=rfl
      rw [this,ih]
      have hm:(x.1∈keysM (e::M))↔x.1∈keysM M:=by
        simp only [keysM,List.map_cons,List.mem_cons]
        exact ⟨fun q=>q.resolve_left (fun q=>h q.symm),.inr⟩
      by_cases h2:x.1∈keysM M
      · rw [if_pos h2,if_pos (hm.2 h2)]; rfl
      · rw [if_neg h2,if_neg (fun q=>h2 (hm.1 q))]; rfl
theorem keys_nodup (L:List (Int×Int×Int)):∀ M:PM,(keysM M).Nodup→(keysM (addL M L)).Nodup:=by
  induction L with
  | nil=>intro M h; exact h
  | cons x L ih =>
    intro M h
    refine ih (addM M x) ?_
    rw [keys_add]
    split
    · exact h
    · rename_i hx
      rw [List.nodup_append]
      exact ⟨h,by simp,fun a ha b hb=>by simp at hb; subst hb; exact fun q=>hx (q ▸ ha)⟩
theorem keys_mem (L:List (Int×Int×Int)) (g:Int):∀ M:PM,g∈keysM (addL M L)↔g∈keysM M∨∃ x∈L,x.1=g:=by
  induction L with
  | nil=>intro M; simp [addL]
  | cons x L ih =>
    intro M
    show g∈keysM (addL (addM M x) L)↔_
    rw [ih,keys_add]
    constructor
    · rintro (h|⟨y,hy,e⟩)
      · split at h
        · exact .inl h
        · simp only [List.mem_append,List.mem_singleton] at h
          rcases h with h|h
          · exact .inl h
          · exact .inr ⟨x,by simp,h.symm⟩
      · exact .inr ⟨y,by simp [hy],e⟩
    · rintro (h|⟨y,hy,e⟩)
      · left; split
        · exact h
        · simp [h]
      · simp only [List.mem_cons] at hy
        rcases hy with rfl|hy
        · left; split
          · rename_i q; exact e ▸ q
          · simp [e]
        · exact .inr ⟨y,hy,e⟩
theorem nodup_le {α:Type} [DecidableEq α]:∀ (A B:List α),A.Nodup→(∀ a∈A,a∈B)→A.length≤B.length
  | [],B,_,_=>Nat.zero_le _
  | a::A,B,h,hs=>by
    rw [List.nodup_cons] at h
    have h1:=nodup_le A (B.erase a) h.2 (fun x hx=>(List.mem_erase_of_ne (fun q:x=a=>h.1 (by rw [← q]; exact hx))).2 (hs x (by simp [hx])))
    have h2:=List.length_erase_of_mem (hs a (by simp))
    have h3:=List.length_pos_of_mem (hs a (by simp))
    simp only [List.length_cons]; omega
def upTo (n:Nat):List Int:=(List.range n).map fun i:Nat=>(i:Int)+1
theorem upTo_mem {n:Nat} {g:Int}:g∈upTo n↔1≤g∧g≤n:=by
  simp only [upTo,List.mem_map,List.mem_range]
  constructor
  · rintro ⟨i,hi,rfl⟩; omega
  · rintro ⟨h1,h2⟩; exact ⟨(g - 1).toNat,by omega,by omega⟩
theorem upTo_nodup (n:Nat):(upTo n).Nodup:=by
  unfold upTo
  refine List.Pairwise.map (R:=fun a b:Nat=>a≠b) _ (fun a b h q=>h (by omega)) ?_
  exact List.nodup_range
theorem keys_count {L:List (Int×Int×Int)} {n:Nat} (h:∀ g,1≤g→g≤(n:Int)→atL L g≠[]):(addL [] L).length=n↔∀ x∈L,1≤x.1∧x.1≤n:=by
  have hk:(addL [] L).length=(keysM (addL [] L)).length:=by simp [keysM]
  have hnd:=keys_nodup L [] (by simp [keysM])
  have hmem:∀ g,g∈keysM (addL [] L)↔∃ x∈L,x.1=g:=fun g=>by rw [keys_mem]; simp [keysM]
  have hin:∀ g,1≤g→g≤(n:Int)→g∈keysM (addL [] L):=fun g h1 h2=>by
    have:=h g h1 h2
    rw [hmem]
    simp only [atL,ne_eq,List.map_eq_nil_iff,List.filter_eq_nil_iff,decide_eq_true_eq,Classical.not_forall,Classical.not_not] at this
    obtain ⟨x,hx,e⟩:=this
    exact ⟨x,hx,e⟩
  have hle:=nodup_le (upTo n) _ (upTo_nodup n) (fun a ha=>by rw [upTo_mem] at ha; exact hin a ha.1 ha.2)
  have hul:(upTo n).length=n:=by simp [upTo]
  rw [hk]
  constructor
  · intro e x hx
    have hxk:=(hmem x.1).2 ⟨x,hx,rfl⟩
    rcases Classical.em (x.1∈upTo n) with hu|hu
    · rwa [upTo_mem] at hu
    · have:=nodup_le (x.1::upTo n) _ (List.nodup_cons.2 ⟨hu,upTo_nodup n⟩) (fun a ha=>by
        simp only [List.mem_cons] at ha
        rcases ha with rfl|ha
        · exact hxk
        · rw [upTo_mem] at ha; exact hin a ha.1 ha.2)
      simp only [List.length_cons] at this
      omega
  · intro hall
    have:=nodup_le _ (upTo n) hnd (fun a ha=>by
      obtain ⟨x,hx,rfl⟩:=(hmem a).1 ha
      rw [upTo_mem]; exact hall x hx)
    omega
theorem atL_app (A B:List (Int×Int×Int)) (g:Int):atL (A ++ B) g=atL A g ++ atL B g:=by simp [atL]
theorem atL_K (k n:Int) (l:List Int) (g:Int):atL (putsK k n l) g=List.replicate (l.count g) (k,n):=by
  induction l with
  | nil=>rfl
  | cons x l ih =>
    have hc:putsK k n (x::l)=(x,k,n)::putsK k n l:=rfl
    rw [hc]
    by_cases h:x=g
    · have:atL ((x,k,n)::putsK k n l) g=(k,n)::atL (putsK k n l) g:=by simp [atL,h]
      rw [this,ih,h,List.count_cons_self]; rfl
    · have:atL ((x,k,n)::putsK k n l) g=atL (putsK k n l) g:=by simp [atL,h]
      rw [this,ih,List.count_cons_of_ne h]
theorem atL_T (l:List TD) (g:Int):atL (putsT l) g=List.replicate ((l.map (·.g)).count g) (6,0):=by
  rw [← atL_K]
  congr 1
  simp [putsT,putsK]
theorem atL_len {L:List (Int×Int×Int)} {g:Int}:(atL L g).length=(L.map (·.1)).count g:=by
  induction L with
  | nil=>rfl
  | cons x L ih =>
    simp only [List.map_cons]
    by_cases h:x.1=g
    · have:atL (x::L) g=x.2::atL L g:=by simp [atL,h]
      rw [this,h,List.count_cons_self,List.length_cons,ih]
    · have:atL (x::L) g=atL L g:=by simp [atL,h]
      rw [this,List.count_cons_of_ne h,ih]
theorem putsP_keys (i:Int) (p:PD):(putsP i p).map (·.1)=queueOf p:=by
  unfold putsP queueOf
  by_cases h:p.nx=0
  · rw [if_pos h,if_pos h]; simp [Function.comp_def]
  · rw [if_neg h,if_neg h]; simp [Function.comp_def]
theorem putsPs_keys:∀ (l:List PD) (i:Int),(putsPs i l).map (·.1)=l.flatMap queueOf
  | [],_=>rfl
  | p::l,i=>by
    simp only [putsPs,List.map_append,List.flatMap_cons,putsPs_keys l (i+1),putsP_keys]
theorem putsPs_kind:∀ (l:List PD) (i:Int) (x:Int×Int×Int),x∈putsPs i l→x.2.1=1∨x.2.1=2
  | [],_,_,h=>by simp [putsPs] at h
  | p :: l,i,x,h=>by
    simp only [putsPs,List.mem_append] at h
    rcases h with h|h
    · simp only [putsP,List.mem_append,List.mem_map] at h
      rcases h with h|⟨g,_,rfl⟩
      · split at h
        · simp at h
        · simp at h; subst h; exact .inl rfl
      · exact .inr rfl
    · exact putsPs_kind l (i+1) x h
theorem mem_atL {L:List (Int×Int×Int)} {g:Int} {y:Int×Int}:y∈atL L g↔(g,y)∈L:=by
  simp only [atL,List.mem_map,List.mem_filter,decide_eq_true_eq]
  constructor
  · rintro ⟨⟨a,b⟩,⟨h1,h2⟩,h3⟩
    dsimp only at h2 h3
    subst h2 h3; exact h1
  · intro h; exact ⟨(g,y),⟨h,rfl⟩,rfl⟩
theorem putsMs_mem:∀ (l:List MD) (i:Int) (g k n:Int),(g,k,n)∈putsMs i l↔∃ j:Nat,∃ m,l[j]?=some m∧m.g=g∧g≠0∧n=i+j+1∧((m.p≠0∧k=4)∨(m.p=0∧k=7))
  | [],_,_,_,_=>by simp [putsMs]
  | m :: l, i,g,k,n=>by
    simp only [putsMs,List.mem_append,putsMs_mem l (i+1)]
    constructor
    · rintro (h|⟨j,m',h1,h2,h3,h4,h5⟩)
      · unfold putsM1 at h
        split at h
        · rename_i hg
          split at h
          · rename_i hp
            simp only [List.mem_singleton,Prod.mk.injEq] at h
            exact ⟨0,m,rfl,h.1.symm,by rw [h.1]; exact hg,by rw [h.2.2]; simp,.inl ⟨hp,h.2.1⟩⟩
          · rename_i hp
            simp only [List.mem_singleton,Prod.mk.injEq] at h
            exact ⟨0,m,rfl,h.1.symm,by rw [h.1]; exact hg,by rw [h.2.2]; simp,.inr ⟨by omega,h.2.1⟩⟩
        · simp at h
      · exact ⟨j+1,m',by simpa using h1,h2,h3,by rw [h4]; omega,h5⟩
    · rintro ⟨j,m',h1,h2,h3,h4,h5⟩
      cases j with
      | zero =>
        simp only [List.getElem?_cons_zero,Option.some.injEq] at h1
        subst h1
        left
        unfold putsM1
        rw [if_pos (by omega)]
        rcases h5 with ⟨h5,h6⟩|⟨h5,h6⟩
        · rw [if_pos h5]; simp; exact ⟨h2.symm,h6,by omega⟩
        · rw [if_neg (by omega)]; simp; exact ⟨h2.symm,h6,by omega⟩
      | succ j=>exact .inr ⟨j,m',by simpa using h1,h2,h3,by omega,h5⟩
theorem kind_M (w:Bool):∀ (l:List MD) (i g:Int),((atL (putsMs i l) g).filter fun y=>decide (y.1=if w then 4 else 7)).length=((l.filter fun m=>decide (m.g≠0)&&(decide (m.p≠0) == w)).map (·.g)).count g
  | [],_,_=>rfl
  | m :: l,i,g=>by
    have ih:=kind_M w l (i+1) g
    simp only [putsMs,atL_app,List.filter_append,List.length_append,ih,List.filter_cons]
    have hone:((atL (putsM1 i m) g).filter fun y=>decide (y.1=if w then 4 else 7)).length=if (m.g≠0∧decide (m.p≠0)=w∧m.g=g) then 1 else 0:=by
      unfold putsM1
      obtain ⟨mp,mg⟩:=m
      dsimp only
      by_cases hg:mg=0
      · simp [hg,atL]
      · by_cases he:mg=g
        · subst he
          by_cases hp:mp=0 <;> cases w <;> simp [hg,hp,atL]
        · by_cases hp:mp=0 <;> cases w <;> simp [hg,hp,atL,he]
    rw [hone]
    by_cases hc:(decide (m.g≠0)&&(decide (m.p≠0) == w))=true
    · have hc':=hc
      simp only [Bool.and_eq_true,decide_eq_true_eq,beq_iff_eq] at hc'
      by_cases he:m.g=g
      · rw [if_pos ⟨hc'.1,hc'.2,he⟩,if_pos hc,List.map_cons,he,List.count_cons_self]; omega
      · rw [if_neg (fun q=>he q.2.2),if_pos hc,List.map_cons,List.count_cons_of_ne he]; omega
    · have hc':=hc
      simp only [Bool.and_eq_true,decide_eq_true_eq,beq_iff_eq] at hc'
      rw [if_neg (fun q=>hc' ⟨q.1,q.2.1⟩),if_neg hc]; omega
theorem putsMs_kind {l:List MD} {i:Int} {g:Int} {y:Int×Int} (h:y∈atL (putsMs i l) g):y.1=4∨y.1=7:=by
  rw [mem_atL] at h
  obtain ⟨k,n⟩:=y
  obtain ⟨_,_,_,_,_,_,h⟩:=(putsMs_mem l i g k n).1 h
  rcases h with h|h
  · exact .inl h.2
  · exact .inr h.2
theorem atL_Gs:∀ (l:List GD) (i g:Int),atL (putsGs i l) g=if i < g∧g≤i+l.length∧(l.getD (g - i - 1).toNat default).st=5 then [(8,0)] else []
  | [],i,g=>by simp only [putsGs,List.length_nil]; rw [if_neg (by omega)]; rfl
  | x :: l,i,g=>by
    simp only [putsGs,atL_app,atL_Gs l (i+1) g,List.length_cons]
    by_cases he:i+1=g
    · have h0:(g - i - 1).toNat=0:=by omega
      rw [h0,List.getD_cons_zero]
      rw [if_neg (by omega),List.append_nil]
      unfold putsG1
      by_cases hs:x.st=5
      · rw [if_pos hs,if_pos ⟨by omega,by omega,hs⟩]; simp [atL,he]
      · rw [if_neg hs,if_neg (fun q=>hs q.2.2)]; rfl
    · have h1:atL (putsG1 i x) g=[]:=by
        unfold putsG1
        split <;> simp [atL,he]
      rw [h1,List.nil_append]
      by_cases hb:i+1 < g
      · have e1:(g - i - 1).toNat=(g - (i+1) - 1).toNat+1:=by omega
        rw [e1,List.getD_cons_succ]
        by_cases hc:g≤i+1+l.length∧(l.getD (g - (i+1) - 1).toNat default).st=5
        · rw [if_pos ⟨by omega,hc.1,hc.2⟩,if_pos ⟨by omega,by omega,hc.2⟩]
        · rw [if_neg (fun q=>hc ⟨q.2.1,q.2.2⟩),if_neg (fun q=>hc ⟨by omega,q.2.2⟩)]
      · rw [if_neg (by omega),if_neg (by omega)]
end Go.Ab
