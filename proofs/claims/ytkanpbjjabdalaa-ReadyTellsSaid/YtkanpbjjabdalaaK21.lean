/-
  The plain law of places, second part: may a state be, and where is a G: the program's answers are the document's.
  A copy of a state; a program's state: the document's answers.
-/
import Derived.Test.YtkanpbjjabdalaaK9
import Derived.Test.YtkanpbjjabdalaaK16
import Derived.Test.YtkanpbjjabdalaaK17
import Derived.Test.YtkanpbjjabdalaaK20
set_option linter.all false
namespace Go.Ab
open Go Go.Proofs
theorem places_split (s:SD) (g:Int):atL (puts s) g=atL (putsPs 0 s.ps) g ++ (List.replicate (s.gl.count g) (3,0) ++ (List.replicate (s.w0.count g) (5,0) ++ (List.replicate (s.w1.count g) (5,1) ++ (List.replicate (s.w2.count g) (5,2) ++
  (List.replicate (s.w3.count g) (5,3) ++ (List.replicate ((s.ts.map (·.g)).count g) (6,0) ++ (atL (putsMs 0 s.ms) g ++ atL (putsGs 0 s.gs) g))))))):=by
 simp only [puts,putsW,putsR,atL_app,atL_K,atL_T]
def cS (F:List (Int×Int)) (k:Int):Nat:=F.countP fun y=>decide (statusOf y.1=k)
theorem cS_app (A B:List (Int×Int)) (k:Int):cS (A ++ B) k=cS A k+cS B k:=by simp [cS,List.countP_append]
theorem cS_rep (n:Nat) (y:Int×Int) (k:Int):cS (List.replicate n y) k=if statusOf y.1=k then n else 0:=by
 simp [cS,List.countP_replicate]
theorem cS_P (s:SD) (g k:Int):cS (atL (putsPs 0 s.ps) g) k=if k=1 then (s.ps.flatMap queueOf).count g else 0:=by
 have hk:∀ y∈atL (putsPs 0 s.ps) g,statusOf y.1=1:=fun y hy=>by
  rw [mem_atL] at hy
  have:=putsPs_kind _ _ _ hy
  unfold statusOf
  rw [if_pos (by dsimp only at this; omega)]
 by_cases h:k=1
 ·subst h
  rw [if_pos rfl,<- putsPs_keys s.ps 0,<- atL_len]
  unfold cS
  rw [List.countP_eq_length]
  intro y hy; simp [hk y hy]
 ·rw [if_neg h]
  unfold cS
  rw [List.countP_eq_zero]
  intro y hy; simp [hk y hy]; omega
theorem cS_M (s:SD) (g k:Int):cS (atL (putsMs 0 s.ms) g) k=if k=2 then (onMs s true).count g else if k=4 then (onMs s false).count g else 0:=by
 have h1:=kind_M true s.ms 0 g
 have h2:=kind_M false s.ms 0 g
 have hk:∀ y∈atL (putsMs 0 s.ms) g,y.1=4\/y.1=7:=fun y hy=>putsMs_kind hy
 unfold cS
 by_cases e:k=2
 ·subst e
  rw [if_pos rfl]
  unfold onMs
  rw [<- h1,List.countP_eq_length_filter]
  congr 1
  refine List.filter_congr fun y hy=>?_
  rcases hk y hy with e|e <;> simp [e,statusOf]
 ·rw [if_neg e]
  by_cases e:k=4
  ·subst e
   rw [if_pos rfl]
   unfold onMs
   rw [<- h2,List.countP_eq_length_filter]
   congr 1
   refine List.filter_congr fun y hy=>?_
   rcases hk y hy with e|e <;> simp [e,statusOf]
  ·rw [if_neg e,List.countP_eq_zero]
   intro y hy
   rcases hk y hy with e|e <;> simp [e,statusOf] <;> omega
theorem cS_len:∀ F:List (Int×Int),F.length=cS F 1+cS F 2+cS F 3+cS F 4+cS F 5
 |[]=>rfl
 |y :: F=>by
  have ih:=cS_len F
  simp only [cS,List.countP_cons,List.length_cons] at ih ⊢
  have:statusOf y.1=1\/statusOf y.1=2\/statusOf y.1=3\/statusOf y.1=4\/statusOf y.1=5:=by
   unfold statusOf; repeat' split
   all_goals omega
  rcases this with e|e|e|e|e <;> simp [e] <;> omega
structure Cts (s:SD) (g:Int) (x:GD):Prop where
 s1:(cS (atL (puts s) g) 1:Int)=timesL (runnables s) g
 s2:(cS (atL (puts s) g) 2:Int)=timesL (onMs s true) g
 s3:(cS (atL (puts s) g) 3:Int)=timesL (waiters s) g
 s4:(cS (atL (puts s) g) 4:Int)=timesL (onMs s false) g
 s5:cS (atL (puts s) g) 5=if x.st=5 then 1 else 0
theorem cts (s:SD) (g:Int) (h1:1<=g) (h2:g<=s.gs.length):Cts s g (s.gs.getD (g.toNat - 1) default):=by
 have hE:atL (putsGs 0 s.gs) g=if (s.gs.getD (g.toNat - 1) default).st=5 then [(8,0)] else []:=by
  rw [atL_Gs,show (g - 0 - 1).toNat=g.toNat - 1 by omega]
  by_cases e:(s.gs.getD (g.toNat - 1) default).st=5
  ·rw [if_pos e,if_pos ⟨by omega,by omega,e⟩]
  ·rw [if_neg e,if_neg (fun q=>e q.2.2)]
 have hEc:∀ k,cS (atL (putsGs 0 s.gs) g) k=if k=5 then (if (s.gs.getD (g.toNat - 1) default).st=5 then 1 else 0) else 0:=fun k=>by
  rw [hE]
  by_cases e:(s.gs.getD (g.toNat - 1) default).st=5
  ·rw [if_pos e,if_pos e]
   by_cases q:k=5
   ·rw [if_pos q,q]; rfl
   ·rw [if_neg q]; simp [cS,statusOf]; omega
  ·rw [if_neg e,if_neg e]; simp [cS]
 refine ⟨?_,?_,?_,?_,?_⟩ <;> rw [places_split] <;> simp only [cS_app,cS_rep,cS_P,cS_M,hEc]
 ·simp [statusOf,timesL,runnables]
 ·simp [statusOf,timesL]
 ·simp [statusOf,timesL,waiters]
  try omega
 ·simp [statusOf,timesL]
 ·simp [statusOf]
theorem mem_MP {s:SD} {g k n:Int} (hk:k=4\/k=7):(k,n)∈atL (puts s) g↔(g,k,n)∈putsMs 0 s.ms:=by
 rw [<- mem_atL (L:=putsMs 0 s.ms),places_split]
 simp only [List.mem_append]
 constructor
 ·rintro (h|h|h|h|h|h|h|h|h)
  ·rw [mem_atL] at h
   have:=putsPs_kind _ _ _ h
   dsimp only at this; omega
  ·have:=(List.mem_replicate.1 h).2; cases this; omega
  ·have:=(List.mem_replicate.1 h).2; cases this; omega
  ·have:=(List.mem_replicate.1 h).2; cases this; omega
  ·have:=(List.mem_replicate.1 h).2; cases this; omega
  ·have:=(List.mem_replicate.1 h).2; cases this; omega
  ·have:=(List.mem_replicate.1 h).2; cases this; omega
  ·exact h
  ·rw [atL_Gs] at h
   split at h
   ·simp at h; omega
   ·simp at h
 ·intro h
  exact .inr (.inr (.inr (.inr (.inr (.inr (.inr (.inl h)))))))
def chkL (F:List (Int×Int)) (x:GD):Bool :=
 match F with
 |[y]=>decide (statusOf y.1=x.st/\x.m=if y.1=4\/y.1=7 then y.2 else 0)
 |_=>false
theorem chkL_iff {F:List (Int×Int)} {x:GD}:chkL F x=true↔∃ y,F=[y]/\statusOf y.1=x.st/\x.m=if y.1=4\/y.1=7 then y.2 else 0:=by
 unfold chkL
 split
 ·simp
 ·rename_i h
  simp only [Bool.false_eq_true,false_iff]
  rintro ⟨y,rfl,_⟩
  exact h y rfl
theorem cS_one (y:Int×Int) (k:Int):cS [y] k=if statusOf y.1=k then 1 else 0:=by
 simp [cS]
theorem status_range (k:Int):1<=statusOf k/\statusOf k<=5:=by
 unfold statusOf; repeat' split
 all_goals omega
theorem status_2 {k:Int}:statusOf k=2↔k=4:=by
 unfold statusOf; repeat' split
 all_goals omega
theorem status_4 {k:Int}:statusOf k=4↔k=7:=by
 unfold statusOf; repeat' split
 all_goals omega
theorem stands_iff (s:SD) (g:Int) (h1:1<=g) (h2:g<=s.gs.length):standsB s g=chkL (atL (puts s) g) (s.gs.getD (g.toNat - 1) default):=by
 have hc:=cts s g h1 h2
 obtain ⟨x,hx⟩ : ∃ x,x=s.gs.getD (g.toNat - 1) default:=⟨_,rfl⟩
 rw [<- hx] at hc ⊢
 obtain ⟨F,hF⟩ : ∃ F,F=atL (puts s) g:=⟨_,rfl⟩
 obtain ⟨c1,c2,c3,c4,c5⟩:=hc
 have hmem:∀ k n,(k=4\/k=7)->((k,n)∈F↔(g,k,n)∈putsMs 0 s.ms):=fun k n hk=>by rw [hF]; exact mem_MP hk
 rw [<- hF] at c1 c2 c3 c4 c5 ⊢
 clear hF
 rw [Bool.eq_iff_iff,chkL_iff]
 unfold standsB
 simp only [<- hx]
 simp only [Bool.and_eq_true,decide_eq_true_eq,<- c1,<- c2,<- c3,<- c4]
 have hl:=cS_len F
 constructor
 ·rintro ⟨⟨⟨r1,r2⟩,q1,q2,q3,q4⟩,hm⟩
  have hlen:F.length=1:=by
   rcases (show x.st=1\/x.st=2\/x.st=3\/x.st=4\/x.st=5 by omega) with e|e|e|e|e <;> rw [e] at q1 q2 q3 q4 c5 <;> simp at q1 q2 q3 q4 c5 <;> omega
  obtain ⟨y,rfl⟩:=List.length_eq_one_iff.1 hlen
  have hst:statusOf y.1=x.st:=by
   have:=status_range y.1
   simp only [cS_one] at q1 q2 q3 q4 c5
   rcases (show x.st=1\/x.st=2\/x.st=3\/x.st=4\/x.st=5 by omega) with e|e|e|e|e <;> rw [e] at q1 q2 q3 q4 c5 ⊢ <;> simp at q1 q2 q3 q4 c5 <;> omega
  refine ⟨y,rfl,hst,?_⟩
  by_cases hk:y.1=4\/y.1=7
  ·rw [if_pos hk]
   have hs24:¬ (x.st≠2/\x.st≠4):=by
    have a2:=@status_2 y.1
    have a4:=@status_4 y.1
    omega
   rw [if_neg hs24] at hm
   simp only [decide_eq_true_eq] at hm
   obtain ⟨m1,m2,m3⟩:=hm
   have hlt:x.m.toNat - 1 < s.ms.length:=by omega
   have hget:s.ms[x.m.toNat - 1]?=some (s.ms.getD (x.m.toNat - 1) ⟨0,0⟩):=by simp [hlt]
   have:∃ k,(k=4\/k=7)/\(g,k,x.m)∈putsMs 0 s.ms:=by
    by_cases hp:(s.ms.getD (x.m.toNat - 1) ⟨0,0⟩).p=0
    ·exact ⟨7,.inr rfl,(putsMs_mem _ _ _ _ _).2 ⟨_,_,hget,m3,by omega,by omega,.inr ⟨hp,rfl⟩⟩⟩
    ·exact ⟨4,.inl rfl,(putsMs_mem _ _ _ _ _).2 ⟨_,_,hget,m3,by omega,by omega,.inl ⟨hp,rfl⟩⟩⟩
   obtain ⟨k,hk',hin⟩:=this
   have:=(hmem k x.m hk').2 hin
   simp only [List.mem_singleton] at this
   rw [<- this]
  ·rw [if_neg hk]
   have hs24:x.st≠2/\x.st≠4:=by
    have a2:=@status_2 y.1
    have a4:=@status_4 y.1
    omega
   rw [if_pos hs24] at hm
   simpa using hm
 ·rintro ⟨y,rfl,hst,hm⟩
  have hr:=status_range y.1
  simp only [cS_one] at c1 c2 c3 c4 c5 ⊢
  rw [hst] at c1 c2 c3 c4 c5 hr ⊢
  refine ⟨⟨hr,?_⟩,?_⟩
  ·refine ⟨?_,?_,?_,?_⟩ <;> split <;> simp
  ·by_cases hk:y.1=4\/y.1=7
   ·rw [if_pos hk] at hm
    have hs24:¬ (x.st≠2/\x.st≠4):=by
     have a2:=@status_2 y.1
     have a4:=@status_4 y.1
     omega
    rw [if_neg hs24]
    have:=(hmem y.1 y.2 hk).1 (by simp)
    obtain ⟨j,m,e1,e2,e3,e4,_⟩:=(putsMs_mem _ _ _ _ _).1 this
    have hj:=(List.getElem?_eq_some_iff.1 e1).1
    simp only [decide_eq_true_eq]
    refine ⟨by omega,by omega,?_⟩
    rw [show x.m.toNat - 1=j by omega,List.getD_eq_getElem?_getD,e1]
    exact e2
   ·rw [if_neg hk] at hm
    have hs24:x.st≠2/\x.st≠4:=by
     have a2:=@status_2 y.1
     have a4:=@status_4 y.1
     omega
    rw [if_pos hs24]
    simpa using hm
def chkG (M:PM) (i:Int) (x:GD):Bool:=chkL ((findM M (i+1)).getD []) x
def mayProg (s:SD):Bool:=partsS s&&(allI (chkG (allM s)) 0 s.gs&&decide ((allM s).length=s.gs.length))
theorem allI_iff {α:Type} (f:Int->α->Bool):∀ (l:List α) (i:Int),allI f i l=true↔∀ (j:Nat) x,l[j]?=some x->f (i+j) x=true
 |[],i=>by simp [allI]
 |y :: l,i=>by
  simp only [allI,Bool.and_eq_true,allI_iff f l (i+1)]
  constructor
  ·rintro ⟨h1,h2⟩ j x hx
   cases j with
   |zero=>simp at hx; subst hx; simpa using h1
   |succ j =>
    have:=h2 j x (by simpa using hx)
    rwa [show i+((j+1:Nat):Int)=i+1+j by omega]
  ·intro h
   refine ⟨by simpa using h 0 y rfl,fun j x hx=>?_⟩
   have:=h (j+1) x (by simpa using hx)
   rwa [show i+((j+1:Nat):Int)=i+1+j by omega] at this
theorem getD_find (s:SD) (g:Int):(findM (allM s) g).getD []=atL (puts s) g:=by
 unfold allM
 rw [find_all]
 split
 ·rename_i h; rw [h]; rfl
 ·rfl
theorem puts_in (s:SD):(∀ x∈puts s,1<=x.1/\x.1<=s.gs.length)↔(inB s.gs.length (runnables s)=true/\inB s.gs.length (waiters s)=true/\inB s.gs.length (onMs s true)=true/\inB s.gs.length (onMs s false)=true):=by
 have key:∀ g:Int,(∃ x∈puts s,x.1=g)↔(g∈runnables s\/g∈waiters s\/g∈onMs s true\/g∈onMs s false\/∃ x∈putsGs 0 s.gs,x.1=g):=fun g=>by
  have e1:(∃ x∈putsPs 0 s.ps,x.1=g)↔g∈s.ps.flatMap queueOf:=by
   rw [<- putsPs_keys s.ps 0]; simp
  have e2:∀ k n l,(∃ x∈putsK k n l,x.1=g)↔g∈l:=fun k n l=>by
   unfold putsK
   constructor
   ·rintro ⟨x,hx,rfl⟩
    obtain ⟨y,hy,rfl⟩:=List.mem_map.1 hx
    exact hy
   ·intro h; exact ⟨(g,k,n),List.mem_map.2 ⟨g,h,rfl⟩,rfl⟩
  have e3:(∃ x∈putsT s.ts,x.1=g)↔g∈s.ts.map (·.g):=by
   unfold putsT
   constructor
   ·rintro ⟨x,hx,rfl⟩
    obtain ⟨y,hy,rfl⟩:=List.mem_map.1 hx
    exact List.mem_map.2 ⟨y,hy,rfl⟩
   ·intro h
    obtain ⟨y,hy,rfl⟩:=List.mem_map.1 h
    exact ⟨(y.g,6,0),List.mem_map.2 ⟨y,hy,rfl⟩,rfl⟩
  have e4:(∃ x∈putsMs 0 s.ms,x.1=g)↔g∈onMs s true\/g∈onMs s false:=by
   constructor
   ·rintro ⟨⟨g',k,n⟩,hx,rfl⟩
    obtain ⟨j,m,h1,h2,h3,h4,h5⟩:=(putsMs_mem _ _ _ _ _).1 hx
    have hm:=List.mem_of_getElem? h1
    simp only [onMs,List.mem_map,List.mem_filter]
    rcases h5 with ⟨h5,_⟩|⟨h5,_⟩
    ·exact .inl ⟨m,⟨hm,by simp [h2,h3,h5]⟩,h2⟩
    ·exact .inr ⟨m,⟨hm,by simp [h2,h3,h5]⟩,h2⟩
   ·intro h
    simp only [onMs,List.mem_map,List.mem_filter,Bool.and_eq_true,decide_eq_true_eq,beq_iff_eq] at h
    rcases h with ⟨m,⟨hm,h1,h2⟩,rfl⟩|⟨m,⟨hm,h1,h2⟩,rfl⟩
    ·obtain ⟨j,hj⟩:=List.getElem?_of_mem hm
     exact ⟨(m.g,4,0+j+1),(putsMs_mem _ _ _ _ _).2 ⟨j,m,hj,rfl,h1,rfl,.inl ⟨by simpa using h2,rfl⟩⟩,rfl⟩
    ·obtain ⟨j,hj⟩:=List.getElem?_of_mem hm
     exact ⟨(m.g,7,0+j+1),(putsMs_mem _ _ _ _ _).2 ⟨j,m,hj,rfl,h1,rfl,.inr ⟨by simpa using h2,rfl⟩⟩,rfl⟩
  simp only [puts,putsW,putsR,List.mem_append,or_and_right,exists_or,e1,e2,e3,e4,runnables,waiters]
  constructor
  ·rintro (h|h|h|h|h|h|h|(h|h)|h) <;> simp [h]
  ·rintro ((h|h)|((((h|h)|h)|h)|h)|h|h|h) <;> simp [h]
 have hG:∀ x∈putsGs 0 s.gs,1<=x.1/\x.1<=s.gs.length:=by
  rintro ⟨g,k,n⟩ hx
  rw [<- mem_atL,atL_Gs] at hx
  split at hx
  ·rename_i h; dsimp only; omega
  ·simp at hx
 simp only [inB,List.all_eq_true,decide_eq_true_eq]
 constructor
 ·intro h
  refine ⟨fun g hg=>?_,fun g hg=>?_,fun g hg=>?_,fun g hg=>?_⟩
  all_goals
   obtain ⟨x,hx,rfl⟩:=(key g).2 (by simp [hg])
   exact h x hx
 ·rintro ⟨h1,h2,h3,h4⟩ x hx
  rcases (key x.1).1 ⟨x,hx,rfl⟩ with h|h|h|h|⟨y,hy,e⟩
  ·exact h1 _ h
  ·exact h2 _ h
  ·exact h3 _ h
  ·exact h4 _ h
  ·rw [<- e]; exact hG y hy
theorem may_prog (s:SD):mayS s=mayProg s:=by
 rw [mayS_parts]
 unfold mayProg
 congr 1
 have hst:((List.range s.gs.length).all fun j:Nat=>standsB s (j+1))=allI (chkG (allM s)) 0 s.gs:=by
  rw [Bool.eq_iff_iff,allI_iff]
  simp only [List.all_eq_true,List.mem_range]
  constructor
  ·intro h j x hx
   obtain ⟨hj,rfl⟩:=List.getElem?_eq_some_iff.1 hx
   have:=h j hj
   rw [stands_iff s _ (by omega) (by omega)] at this
   unfold chkG
   rw [getD_find,show (0:Int)+j+1=j+1 by omega]
   rwa [show ((j:Int)+1).toNat - 1=j by omega,List.getD_eq_getElem?_getD,hx,Option.getD_some] at this
  ·intro h j hj
   have:=h j s.gs[j] (by simp [hj])
   rw [stands_iff s _ (by omega) (by omega)]
   unfold chkG at this
   rw [getD_find,show (0:Int)+j+1=j+1 by omega] at this
   rwa [show ((j:Int)+1).toNat - 1=j by omega,List.getD_eq_getElem?_getD,List.getElem?_eq_getElem hj,Option.getD_some]
 rw [hst]
 cases hall:allI (chkG (allM s)) 0 s.gs with
 |false=>simp
 |true =>
  have hne:∀ g,1<=g->g<=(s.gs.length:Int)->atL (puts s) g≠[]:=fun g h1 h2 q=>by
   have:=(allI_iff _ _ _).1 hall (g - 1).toNat (s.gs[(g - 1).toNat]'(by omega)) (by simp <;> omega)
   unfold chkG at this
   rw [getD_find,show (0:Int)+((g - 1).toNat:Int)+1=g by omega,q] at this
   cases this
  have hk:=keys_count (L:=puts s) (n:=s.gs.length) hne
  rw [puts_in] at hk
  simp only [Bool.and_true,Bool.true_and]
  rw [Bool.eq_iff_iff]
  simp only [Bool.and_eq_true,decide_eq_true_eq]
  exact hk.symm
theorem atPs_head:∀ (l:List PD) (i g:Int),g≠0->atPs i l g=(atL (putsPs i l) g).headD (3,0)
 |[],_,_,_=>rfl
 |p :: l,i,g,hg=>by
  have hR:atL ((listR p.r).map fun x=>(x,2,i+1)) g=List.replicate ((listR p.r).count g) (2,i+1):=atL_K 2 (i+1) (listR p.r) g
  simp only [atPs,putsPs,putsP,atL_app,hR,atPs_head l (i+1) g hg,timesL]
  by_cases h1:p.nx=g
  ·rw [if_pos h1,if_neg (by omega)]
   simp [atL,h1]
  ·rw [if_neg h1]
   have e:atL (if p.nx=0 then [] else [(p.nx,1,i+1)]) g=[]:=by
    split <;> simp [atL,h1]
   rw [e,List.nil_append]
   by_cases h2:0 < ((listR p.r).count g:Int)
   ·rw [if_pos h2]
    obtain ⟨n,hn⟩ : ∃ n,(listR p.r).count g=n+1:=⟨(listR p.r).count g - 1,by omega⟩
    rw [hn]; rfl
   ·rw [if_neg h2,show (listR p.r).count g=0 by omega]; rfl
theorem place_prog (s:SD) (g:Int) (h1:1<=g) (h2:g<=s.gs.length) (hm:mayS s=true):atL (puts s) g=[placeS s g]:=by
 have hp:=hm
 rw [may_prog] at hp
 unfold mayProg at hp
 simp only [Bool.and_eq_true] at hp
 have hc:=(allI_iff _ _ _).1 hp.2.1 (g - 1).toNat (s.gs[(g - 1).toNat]'(by omega)) (by simp <;> omega)
 unfold chkG at hc
 rw [getD_find,show (0:Int)+((g - 1).toNat:Int)+1=g by omega,chkL_iff] at hc
 obtain ⟨y,hF,hst,hmm⟩:=hc
 have hx:s.gs.getD (g.toNat - 1) default=s.gs[(g - 1).toNat]'(by omega):=by
  rw [List.getD_eq_getElem?_getD,show g.toNat - 1=(g - 1).toNat by omega,List.getElem?_eq_getElem (by omega)]; rfl
 have hct:=cts s g h1 h2
 rw [hx] at hct
 obtain ⟨x,hxx⟩ : ∃ x,x=s.gs[(g - 1).toNat]'(by omega):=⟨_,rfl⟩
 rw [<- hxx] at hst hmm hct hx
 have hmem:placeS s g∈atL (puts s) g:=by
  unfold placeS
  rw [if_neg (by rw [hm]; simp; omega)]
  simp only [hx]
  have hr:=status_range y.1
  rw [hst] at hr
  obtain ⟨c1,c2,c3,c4,c5⟩:=hct
  rw [hF] at c1 c2 c3 c4 c5
  simp only [cS_one,hst] at c1 c2 c3 c4 c5
  have hy:y∈atL (puts s) g:=by rw [hF]; simp
  have a2:=@status_2 y.1
  have a4:=@status_4 y.1
  rw [hst] at a2 a4
  rcases (show x.st=1\/x.st=2\/x.st=3\/x.st=4\/x.st=5 by omega) with e|e|e|e|e
  ·rw [if_pos e,atPs_head _ _ _ (by omega),places_split]
   rw [if_pos e] at c1
   cases hfp:atL (putsPs 0 s.ps) g with
   |cons z l=>simp
   |nil =>
    have:(s.ps.flatMap queueOf).count g=0:=by rw [<- putsPs_keys s.ps 0,<- atL_len,hfp]; rfl
    have:0 < s.gl.count g:=by
     simp only [timesL,runnables,List.count_append,this] at c1; omega
    simp only [List.headD,List.mem_append]
    exact .inr (.inl (List.mem_replicate.2 ⟨by omega,rfl⟩))
  ·rw [if_neg (by omega),if_pos e]
   have:y=(4,x.m):=by
    rw [if_pos (.inl (a2.1 e))] at hmm
    rw [hmm,<- a2.1 e]
   rw [<- this]; exact hy
  ·rw [if_neg (by omega),if_neg (by omega),if_neg (by omega),if_neg (by omega)]
   rw [if_pos e] at c3
   rw [places_split]
   simp only [timesL,waiters,List.count_append] at c3
   simp only [List.mem_append]
   have hin:∀ (z:Int×Int) (n:Nat),0 < n->z∈List.replicate n z:=fun z n h=>List.mem_replicate.2 ⟨by omega,rfl⟩
   by_cases d0:0 < timesL s.w0 g
   ·rw [if_pos d0]; exact .inr (.inr (.inl (hin _ _ (by unfold timesL at d0; omega))))
   rw [if_neg d0]
   by_cases d1:0 < timesL s.w1 g
   ·rw [if_pos d1]; exact .inr (.inr (.inr (.inl (hin _ _ (by unfold timesL at d1; omega)))))
   rw [if_neg d1]
   by_cases d2:0 < timesL s.w2 g
   ·rw [if_pos d2]; exact .inr (.inr (.inr (.inr (.inl (hin _ _ (by unfold timesL at d2; omega))))))
   rw [if_neg d2]
   by_cases d3:0 < timesL s.w3 g
   ·rw [if_pos d3]; exact .inr (.inr (.inr (.inr (.inr (.inl (hin _ _ (by unfold timesL at d3; omega)))))))
   rw [if_neg d3]
   exact .inr (.inr (.inr (.inr (.inr (.inr (.inl (hin _ _ (by unfold timesL at d0 d1 d2 d3; omega))))))))
  ·rw [if_neg (by omega),if_neg (by omega),if_pos e]
   have:y=(7,x.m):=by
    rw [if_pos (.inr (a4.1 e))] at hmm
    rw [hmm,<- a4.1 e]
   rw [<- this]; exact hy
  ·rw [if_neg (by omega),if_neg (by omega),if_neg (by omega),if_pos e,places_split]
   simp only [List.mem_append]
   refine .inr (.inr (.inr (.inr (.inr (.inr (.inr (.inr ?_)))))))
   rw [atL_Gs,show (g - 0 - 1).toNat=g.toNat - 1 by omega,hx,if_pos ⟨by omega,by omega,e⟩]; simp
 rw [hF] at hmem ⊢
 simp only [List.mem_singleton] at hmem
 rw [hmem]
end Go.Ab

namespace Go.Ab
open Go Go.Proofs
set_option maxRecDepth 100000
def fT (f:List ID):List V:=[.sl true 2 (f.map jC)]
theorem freshR_jC (l:List ID):V.freshR (l.map jC)=true:=by
 induction l with
 |nil=>rfl
 |cons x l ih=>simp only [List.map_cons,V.freshR,ih,Bool.and_true]; rfl
theorem fr_fT (l:List (List ID)):okRows true (l.map fT)=true:=okRows_map fT (fun f=>by
 have:=freshR_jC f
 simp [fT,V.fresh,this]) l
def stT (s:SD):List V :=
 [.own 1 (s.prog.map fT),.own 5 (s.gs.map gC),.own 13 (s.ps.map pC),.own 2 (s.ms.map mC),.own 1 (s.gl.map iC),.int .i64 s.c0,.int .i64 s.c1,.int .i64 s.c2,.int .i64 s.c3,.own 1 (s.w0.map iC),.own 1 (s.w1.map iC),.own 1 (s.w2.map iC),.own 1 (s.w3.map iC),.own 2 (s.ts.map tC),.int .i64 s.ck,.int .i64 s.pr]
structure CopI where
 i:Int
 q:V
 o:AO
 rs:List (List V)
set_option maxHeartbeats 8000000 in
theorem c93 (s:SD) (hs:Fit s):CallsV Try.prog 93 [.agg (stC s)] (.agg (stT s)) [.undef] true:=by
 have hcode:=hs.code
 have hprog:=hs.prog
 have hgs:=hs.gs
 have hps:=hs.ps
 have hms:=hs.ms
 have hts:=hs.ts
 have cl:=c113 s.gl hs.gl
 have k0:=c113 s.w0 hs.w0
 have k1:=c113 s.w1 hs.w1
 have k2:=c113 s.w2 hs.w2
 have k3:=c113 s.w3 hs.w3
 clear hs
 unfold stT
 obtain ⟨prog,gs,ps,ms,gl,c0,c1,c2,c3,w0,w1,w2,w3,ts,ck,pr⟩:=s
 obtain ⟨rp,rg,rq,rm,rl,r0,r1,r2,r3,rt,⟨h_rp,s_rp,l_rp⟩,⟨h_rg,s_rg,l_rg⟩,⟨h_rq,s_rq,l_rq⟩,⟨h_rm,s_rm,l_rm⟩,⟨h_rl,s_rl,l_rl⟩,⟨h_r0,s_r0,l_r0⟩,⟨h_r1,s_r1,l_r1⟩,⟨h_r2,s_r2,l_r2⟩,⟨h_r3,s_r3,l_r3⟩,⟨h_rt,s_rt,l_rt⟩,hst_⟩:=stR prog gs ps ms gl c0 c1 c2 c3 w0 w1 w2 w3 ts ck pr
 dsimp only at hcode hprog hgs hps hms hts cl k0 k1 k2 k3
 rw [hst_]
 rw [<- h_rl] at cl
 rw [<- h_r0] at k0
 rw [<- h_r1] at k1
 rw [<- h_r2] at k2
 rw [<- h_r3] at k3
 dsimp only
 rw [<- h_rg,<- h_rq,<- h_rm,<- h_rl,<- h_r0,<- h_r1,<- h_r2,<- h_r3,<- h_rt]
 refine callsV_q hD Try.func93 ok93x rfl rfl (by simp only [List.map_cons,List.map_nil,V.sh,V.shL,stL,s_rp,s_rg,s_rq,s_rm,s_rl,s_r0,s_r1,s_r2,s_r3,s_rt]) fun P Q hP hQ=>?_
 repeat' (cbv; first|refine .y ?_|refine .n ?_|refine .s (fun hc=>?_) fun hc=>?_|refine .a fun v hv=>?_|refine .d ?_|refine .u fun vr vn hvr hvn hvl=>?_|fail)
 all_goals (try cbv)
 refine LoopQ.to (ι:=CopI) (fun p=>⟨tab .undef [(1,.ptr 100 0),(2,.ptr 101 0),(3,.ptr 112 0),(4,.int .i64 p.i)],tab .dead [(100,.box (stL rp rg rq rm rl c0 c1 c2 c3 r0 r1 r2 r3 rt ck pr)),(101,.box [.nils 1,.nils 5,.nils 13,.nils 2,.nils 1,.int .i64 0,.int .i64 0,.int .i64 0,.int .i64 0,.nils 1,.nils 1,.nils 1,.nils 1,.nils 2,.int .i64 0,.int .i64 0]),
  (112,.box [p.q,.nils 5,.nils 13,.nils 2,.nils 1,.int .i64 c0,.int .i64 c1,.int .i64 c2,.int .i64 c3,.nils 1,.nils 1,.nils 1,.nils 1,.nils 2,.int .i64 ck,.int .i64 pr]),(113,p.o)]⟩)
  (fun p=>0<=p.i/\p.i.toNat<=prog.length/\p.rs=(prog.take p.i.toNat).map fT/\((p.rs=[]/\p.q=.nils 1/\p.o=.dead)\/∃ n,n=p.rs.length/\p.q=.sref 113 0 n/\p.o=.rows 1 p.rs)) (fun p=>prog.length - p.i.toNat) ⟨0,.nils 1,.dead,[]⟩ ⟨by simp,by simp,by simp,.inl ⟨rfl,rfl,rfl⟩⟩ rfl fun ⟨i,q,o,rs⟩ ⟨i0,i1,hrs,hq⟩ A hA=>?_
 dsimp only at i0 i1 hrs hq ⊢
 have lrs:rs.length=i.toNat:=by
  rw [hrs]; simp; omega
 rcases drop_cases i1 with ⟨e,hd⟩|⟨hlt,x,hd,hx⟩
 ·rw [e,List.take_length] at hrs
  rcases hq with ⟨hr0,rfl,rfl⟩|⟨n,hn,rfl,rfl⟩
  ·rw [hr0] at hrs lrs
   clear hr0
   try rw [<- hP] at cl
   try rw [<- hP] at k0
   try rw [<- hP] at k1
   try rw [<- hP] at k2
   try rw [<- hP] at k3
   repeat' (cbv; first|refine .y ?_|refine .n ?_|refine .s (fun hc=>?_) fun hc=>?_|refine .gq cl ?_|refine .gq k0 ?_|refine .gq k1 ?_|refine .gq k2 ?_|refine .gq k3 ?_|refine .a fun v hv=>?_|refine .d ?_|refine .u fun vr vn hvr hvn hvl=>?_|fail)
   all_goals (try cbv)
   simp only [<- List.length.eq_def]
   refine hQ _ ⟨?_,rfl,?_,rfl,rfl⟩
   ·subst_vars
    simp [t93x,RV.ev,pack,resG,giveC,tab,pickc]
    exact List.map_eq_nil_iff.1 hrs.symm
   ·have f1:=fr_gC gs
    have f2:=fr_pC ps
    have f3:=fr_mC ms
    have f4:=fr_tC ts
    have f5:=fr_iC gl
    have f6:=fr_iC w0
    have f7:=fr_iC w1
    have f8:=fr_iC w2
    have f9:=fr_iC w3
    have f0:=fr_fT prog
    unfold okRows at f0 f1 f2 f3 f4 f5 f6 f7 f8 f9
    subst_vars
    simp [t93x,RV.ev,V.notTup,V.cells,resG,giveC,okGood,tab,pickc,V.fresh,V.closed] at *
    exact ⟨f1,f2,f3,f5,f6,f7,f8,f9,f4⟩
  ·try rw [<- hP] at cl
   try rw [<- hP] at k0
   try rw [<- hP] at k1
   try rw [<- hP] at k2
   try rw [<- hP] at k3
   repeat' (cbv; first|refine .y ?_|refine .n ?_|refine .s (fun hc=>?_) fun hc=>?_|refine .gq cl ?_|refine .gq k0 ?_|refine .gq k1 ?_|refine .gq k2 ?_|refine .gq k3 ?_|refine .a fun v hv=>?_|refine .d ?_|refine .u fun vr vn hvr hvn hvl=>?_|fail)
   all_goals (try cbv)
   simp only [<- List.length.eq_def]
   refine hQ _ ⟨?_,rfl,?_,rfl,rfl⟩
   ·subst_vars
    simp [t93x,RV.ev,pack,resG,giveC,tab,pickc]
   ·have f1:=fr_gC gs
    have f2:=fr_pC ps
    have f3:=fr_mC ms
    have f4:=fr_tC ts
    have f5:=fr_iC gl
    have f6:=fr_iC w0
    have f7:=fr_iC w1
    have f8:=fr_iC w2
    have f9:=fr_iC w3
    have f0:=fr_fT prog
    unfold okRows at f0 f1 f2 f3 f4 f5 f6 f7 f8 f9
    subst_vars
    simp [t93x,RV.ev,V.notTup,V.cells,resG,giveC,okGood,tab,pickc,V.fresh,V.closed] at *
    exact ⟨f0,f1,f2,f3,f5,f6,f7,f8,f9,f4⟩
 ·have ht:=take_succ_of hx
  obtain ⟨rf,h_rf⟩ : ∃ r,r=x.map jC:=⟨_,rfl⟩
  have s_rf:V.shR rf=rf:=by rw [h_rf]; exact shR_jC x
  have l_rf:rf.length=x.length:=by simp [h_rf]
  have ga:rp.getD i.toNat []=[.sl false 2 rf]:=by rw [getD_rows h_rp hx,h_rf]; rfl
  have lf:x.length<=1000000:=hcode x (mem_of_get hx)
  have hnext:rs ++ [[.sl true 2 rf]]=(prog.take (i.toNat+1)).map fT:=by rw [ht,hrs,h_rf]; simp [fT]
  clear hrs ht
  rcases hq with ⟨hr0,rfl,rfl⟩|⟨n,hn,rfl,rfl⟩
  ·rw [hr0] at hnext lrs
   clear hr0
   repeat' (cbv; first|refine .y ?_|refine .n ?_|refine .s (fun hc=>?_) fun hc=>?_|refine .row ga ?_|refine .a fun v hv=>?_|refine .d ?_|refine .u fun vr vn hvr hvn hvl=>?_|fail)
   all_goals (try cbv)
   refine hA ⟨v,.sref 113 0 vn,.rows 1 vr,vr⟩ _ ⟨by dsimp only; omega,by dsimp only; omega,?_,.inr ⟨vn,hvn,rfl,rfl⟩⟩ (by dsimp only; omega) rfl
   dsimp only
   rename_i u un hu hun hul
   rw [show v.toNat=i.toNat+1 by omega,<- hnext,hvr,hu]; rfl
  ·repeat' (cbv; first|refine .y ?_|refine .n ?_|refine .s (fun hc=>?_) fun hc=>?_|refine .row ga ?_|refine .a fun v hv=>?_|refine .d ?_|refine .u fun vr vn hvr hvn hvl=>?_|fail)
   all_goals (try cbv)
   refine hA ⟨v,.sref 113 0 vn,.rows 1 vr,vr⟩ _ ⟨by dsimp only; omega,by dsimp only; omega,?_,.inr ⟨vn,hvn,rfl,rfl⟩⟩ (by dsimp only; omega) rfl
   dsimp only
   rename_i u un hu hun hul
   rw [show v.toNat=i.toNat+1 by omega,<- hnext,hvr,hu]; rfl
def newS (p:List (List ID)) (k:Int):SD:=⟨p,[⟨0,0,1,0,0⟩],List.replicate 8 default,[],[1],0,0,0,0,[],[],[],[],[],0,k⟩
def newV (p:List (List ID)) (k:Int):V :=
 .agg [.sl false 1 (p.map fC),.sl true 5 ((newS p k).gs.map gC),.sl true 13 ((newS p k).ps.map pC),.own 2 [],.sl true 1 ((newS p k).gl.map iC),.int .i64 0,.int .i64 0,.int .i64 0,.int .i64 0,.own 1 [],.own 1 [],.own 1 [],.own 1 [],.own 2 [],.int .i64 0,.int .i64 k]
def zeroV:V :=
 .agg [.own 1 [],.own 5 [],.own 13 [],.own 2 [],.own 1 [],.int .i64 0,.int .i64 0,.int .i64 0,.int .i64 0,.own 1 [],.own 1 [],.own 1 [],.own 1 [],.own 2 [],.int .i64 0,.int .i64 0]
set_option maxHeartbeats 4000000 in
theorem c77 (p:List (List ID)) (hp:p.length<=1000000) (hf:∀ f∈p,f.length<=1000000) (k:Int) (b:Bool) (hb:b=(mayP p&&decide (1<=k/\k<=8))) :
  CallsV Try.prog 77 [.sl false 1 (p.map fC),.int .i64 k] (.tup [if b=true then newV p k else zeroV,.int .i64 (if b=true then 0 else 1)]) [.undef,.undef] false:=by
 obtain ⟨bm,hbm⟩ : ∃ b,b=mayP p:=⟨_,rfl⟩
 have cm:=c59 p hp hf bm hbm
 rw [<- hbm] at hb
 clear hbm
 unfold newV
 obtain ⟨ra,h_ra⟩ : ∃ r,r=p.map fC:=⟨_,rfl⟩
 have s_ra:V.shR ra=ra:=by rw [h_ra]; exact shR_fC p
 have l_ra:ra.length=p.length:=by simp [h_ra]
 rw [<- h_ra] at cm ⊢
 by_cases hk:1<=k/\k<=8
 ·rw [decide_eq_true hk,Bool.and_true] at hb
  subst hb
  cases b with
  |true =>
   rw [if_pos rfl,if_pos rfl]
   refine callsV_q hD Try.func77 ok77 rfl rfl (by simp only [List.map_cons,List.map_nil,V.sh,V.shL,stL,s_ra]) fun P Q hP hQ=>?_
   try rw [<- hP] at cm
   repeat' (cbv; first|refine .y ?_|refine .n ?_|refine .s (fun hc=>?_) fun hc=>?_|refine .gq cm ?_|refine .a fun v hv=>?_|refine .d ?_|refine .u fun vr vn hvr hvn hvl=>?_|fail)
   all_goals (try cbv)
   (refine hQ _ ?_; exact ⟨rfl,rfl,rfl,rfl,rfl⟩)
  |false =>
   rw [if_neg (by decide),if_neg (by decide)]
   refine callsV_q hD Try.func77 ok77 rfl rfl (by simp only [List.map_cons,List.map_nil,V.sh,V.shL,stL,s_ra]) fun P Q hP hQ=>?_
   try rw [<- hP] at cm
   repeat' (cbv; first|refine .y ?_|refine .n ?_|refine .s (fun hc=>?_) fun hc=>?_|refine .gq cm ?_|refine .a fun v hv=>?_|refine .d ?_|refine .u fun vr vn hvr hvn hvl=>?_|fail)
   all_goals (try cbv)
   (refine hQ _ ?_; exact ⟨rfl,rfl,rfl,rfl,rfl⟩)
 ·rw [decide_eq_false hk,Bool.and_false] at hb
  subst hb
  rw [if_neg (by decide),if_neg (by decide)]
  refine callsV_q hD Try.func77 ok77 rfl rfl (by simp only [List.map_cons,List.map_nil,V.sh,V.shL,stL,s_ra]) fun P Q hP hQ=>?_
  cases bm
  all_goals
   try rw [<- hP] at cm
   repeat' (cbv; first|refine .y ?_|refine .n ?_|refine .s (fun hc=>?_) fun hc=>?_|refine .gq cm ?_|refine .a fun v hv=>?_|refine .d ?_|refine .u fun vr vn hvr hvn hvl=>?_|fail)
   all_goals (try cbv)
   all_goals first
    |(refine hQ _ ?_; exact ⟨rfl,rfl,rfl,rfl,rfl⟩)
    |(exfalso; omega)
end Go.Ab
