/-
  Walks over lists: what a list is read and written by has a name that is not looked into ('Fs'), so that states stay as they are said.
  A result may be read as one reads it: inner slices by value, and not new.
  Arguments: what a claim's row reads of an argument is what an abstract value of the argument's shape says.
  A result's own slices of nothing may be read as slices of nothing.
-/
import Derived.OpenShut
import Derived.SizedLaws
import Derived.Test.YtkanpbjjabdalaaK1
import Derived.Test.YtkanpbjjabdalaaK7
set_option linter.all false
namespace Go.Ab
open Go
structure Fs where
 m:{α:Type}->(α->List V)->List α->List (List V)
 g:{α:Type}->[Inhabited α]->List α->Int->α
 u:{α:Type}->List α->Int->α->List α
 a:{α:Type}->List α->List α->List α
 n:{α:Type}->List α->Int
 x:Int->Nat
 l:List (List V)->Nat
def fs:Fs:=⟨fun f l=>l.map f,fun l p=>l.getD (p.toNat - 1) default,fun l p x=>l.set (p.toNat - 1) x,fun a b=>a ++ b,fun l=>l.length,fun p=>p.toNat - 1,List.length⟩
class Dec (α:Type) where
 dec:List V->α
class ShOk {α:Type} (f:α->List V):Prop where
 h:∀ x,V.shL (f x)=f x
structure In (F:Fs) {α:Type} (l:List α) (p:Int):Prop where
 lo:1<=p
 hi:p<=F.n l
structure Few (F:Fs) {α:Type} (l:List α):Prop where
 h:F.n l<=100000000
section
variable {F:Fs} {α:Type} {f:α->List V} {l l2:List α} {p i:Int} {s s' n off bytes:Nat}
theorem In.u {q:Int} {y:α} (h:In F l p) (hF:F=fs:=by assumption):In F (F.u l q y) p:=by
 subst hF
 exact ⟨h.lo,by simpa [fs] using h.hi⟩
theorem shM [q:ShOk f] (hF:F=fs:=by assumption):V.shR (F.m f l)=F.m f l:=by
 have h:=q.h
 subst hF
 show V.shR (l.map f)=l.map f
 induction l with
 |nil=>rfl
 |cons x l ih=>simp only [List.map_cons,V.shR,ih,h]
theorem lenM (hF:F=fs):F.l (F.m f l)=(F.n l).toNat:=by subst hF; simp [fs]
theorem lenU {q:Int} {y:α} (hF:F=fs:=by assumption):F.l (F.m f l)=F.l (F.m f (F.u l q y)):=by subst hF; simp [fs]
theorem lenL {r:List (List V)} (hF:F=fs:=by assumption):F.l r=r.length:=by subst hF; rfl
theorem lenLU {q:Int} {y:α} (hF:F=fs:=by assumption):F.l (F.m f l)=(F.m f (F.u l q y)).length:=by subst hF; simp [fs]
theorem frM (h:∀ x,(f x).all (fun c=>!true||c.fresh)=true:=by intro _; rfl) (hF:F=fs:=by assumption):FrR (F.m f l):=by
 subst hF
 exact ⟨okRows_map f h l⟩
theorem nn (hF:F=fs):0<=F.n l:=by subst hF; show (0:Int)<=l.length; omega
theorem nU {q:Int} {y:α} (hF:F=fs):F.n (F.u l q y)=F.n l:=by subst hF; simp [fs]
theorem gU [Inhabited α] {y:α} (hF:F=fs) (h:In F l p):F.g (F.u l p y) p=y:=by
 subst hF
 have h1:=h.lo
 have h2:p<=l.length:=h.hi
 show (l.set (p.toNat - 1) y).getD (p.toNat - 1) default=y
 have:p.toNat - 1 < l.length:=by omega
 simp [List.getD_eq_getElem?_getD,this]
theorem getD_g [Inhabited α] (hF:F=fs) (h:In F l p):(F.m f l).getD (p.toNat - 1) []=f (F.g l p):=by
 subst hF
 have h1:=h.lo
 have h2:p<=l.length:=h.hi
 show (l.map f).getD _ []=f (l.getD _ default)
 have:p.toNat - 1 < l.length:=by omega
 simp [List.getD_eq_getElem?_getD,this]
theorem Nv.fm [Inhabited α] (hi:i=p - 1) (h:In F l p) (h0:s'=s) (hF:F=fs):Nv (fun _=>s'=s/\0<=i/\i.toNat < (F.m f l).length) (fun _=>(F.m f l).getD i.toNat []) (f (F.g l p)):=by
 have h1:=h.lo
 have h2:=h.hi
 refine ⟨⟨h0,by omega,?_⟩,?_⟩
 ·have:=lenM (f:=f) (l:=l) hF
  subst hF
  have:(List.map f l).length=((l.length:Int)).toNat:=this
  show i.toNat < (List.map f l).length
  have h2:p<=l.length:=h2
  omega
 ·rw [show i.toNat=p.toNat - 1 by omega]; exact getD_g hF h
theorem Nv.fh {x:α} (hx:l[i.toNat]?=some x) (h1:0<=i) (h0:s'=s) (hF:F=fs):Nv (fun _=>s'=s/\0<=i/\i.toNat < (F.m f l).length) (fun _=>(F.m f l).getD i.toNat []) (f x):=by
 subst hF
 obtain ⟨hl,rfl⟩:=List.getElem?_eq_some_iff.1 hx
 refine ⟨⟨h0,h1,by simpa [fs] using hl⟩,?_⟩
 show (l.map f).getD _ []=_
 simp [List.getD_eq_getElem?_getD,hl]
theorem Nv.fnh {k:Int} (hk:F.n l=k) (hF:F=fs):Nv (fun _=>True) (fun _=>((F.m f l).length:Int)) k:=⟨trivial,by subst hF hk; simp [fs]⟩
theorem Nv.fnlh {k:Int} (hk:F.n l=k) (hF:F=fs):Nv (fun _=>True) (fun _=>((F.l (F.m f l):Nat):Int)) k:=⟨trivial,by subst hF hk; simp [fs]⟩
theorem Nv.fn (hF:F=fs):Nv (fun _=>True) (fun _=>((F.m f l).length:Int)) (F.n l):=⟨trivial,by subst hF; simp [fs]⟩
theorem Nv.fnl (hF:F=fs):Nv (fun _=>True) (fun _=>((F.l (F.m f l):Nat):Int)) (F.n l):=⟨trivial,by subst hF; simp [fs]⟩
theorem Nv.fx (hi:i=p - 1) (h:In F l p) (h0:s'=s) (hF:F=fs):Nv (fun _=>s'=s/\0<=i/\i.toNat < F.l (F.m f l)) (fun _=>0+i.toNat) (F.x p):=by
 have h1:=h.lo
 have h2:=h.hi
 rw [lenM hF]
 refine ⟨⟨h0,by omega,by omega⟩,?_⟩
 subst hF
 show 0+i.toNat=p.toNat - 1
 omega
theorem Nv.fe [Inhabited α] (h:In F l p) (h0:n<=s) (hF:F=fs):Nv (fun _=>n<=s) (fun _=>(F.m f l).getD (F.x p) []) (f (F.g l p)):=⟨h0,by
 have:=getD_g (f:=f) hF h
 subst hF; exact this⟩
theorem getU {y:α} (hF:F=fs) (h:In F l p):(F.m f (F.u l p y)).getD (F.x p) []=f y:=by
 subst hF
 have h1:=h.lo
 have h2:p<=l.length:=h.hi
 show ((l.set (p.toNat - 1) y).map f).getD (p.toNat - 1) []=f y
 have:p.toNat - 1 < l.length:=by omega
 simp [List.getD_eq_getElem?_getD,this]
theorem Nv.feu {y:α} (h:In F l p) (h0:n<=s) (hF:F=fs):Nv (fun _=>n<=s) (fun _=>(F.m f (F.u l p y)).getD (F.x p) []) (f y):=⟨h0,getU hF h⟩
theorem Nv.fw [Inhabited α] [Dec α] {cs:List V} (h:In F l p) (hy:f (Dec.dec (setR (f (F.g l p)) off cs))=setR (f (F.g l p)) off cs) (hp:V.closedL cs=true/\n<=s) (hF:F=fs) :
  Nv (fun _=>V.closedL cs=true/\n<=s) (fun _=>(F.m f l).set (F.x p) (setR ((F.m f l).getD (F.x p) []) off cs)) (F.m f (F.u l p (Dec.dec (setR (f (F.g l p)) off cs)))):=⟨hp,by
 rw [(Nv.fe (f:=f) h (Nat.le_refl n) hF).is]
 subst hF
 show (l.map f).set (p.toNat - 1) _=(l.set (p.toNat - 1) _).map f
 rw [List.map_set,hy]⟩
theorem Nv.fwu [Dec α] {y:α} {cs:List V} (h:In F l p) (hy:f (Dec.dec (setR (f y) off cs))=setR (f y) off cs) (hp:V.closedL cs=true/\n<=s) (hF:F=fs) :
  Nv (fun _=>V.closedL cs=true/\n<=s) (fun _=>(F.m f (F.u l p y)).set (F.x p) (setR ((F.m f (F.u l p y)).getD (F.x p) []) off cs)) (F.m f (F.u l p (Dec.dec (setR (f y) off cs)))):=⟨hp,by
 rw [getU hF h]
 subst hF
 show ((l.set (p.toNat - 1) _).map f).set (p.toNat - 1) _=(l.set (p.toNat - 1) _).map f
 rw [List.map_set,List.map_set,List.set_set,hy]⟩
theorem Nv.fmh [Inhabited α] {y:α} (hi:i=p - 1) (hy:F.g l p=y) (h:In F l p) (h0:s'=s) (hF:F=fs):Nv (fun _=>s'=s/\0<=i/\i.toNat < (F.m f l).length) (fun _=>(F.m f l).getD i.toNat []) (f y):=hy ▸ .fm hi h h0 hF
theorem Nv.feh [Inhabited α] {y:α} (hy:F.g l p=y) (h:In F l p) (h0:n<=s) (hF:F=fs):Nv (fun _=>n<=s) (fun _=>(F.m f l).getD (F.x p) []) (f y):=hy ▸ .fe h h0 hF
theorem Nv.fwh [Inhabited α] [Dec α] {y:α} {cs:List V} (hg:F.g l p=y) (h:In F l p) (hy:f (Dec.dec (setR (f y) off cs))=setR (f y) off cs) (hp:V.closedL cs=true/\n<=s) (hF:F=fs) :
 Nv (fun _=>V.closedL cs=true/\n<=s) (fun _=>(F.m f l).set (F.x p) (setR ((F.m f l).getD (F.x p) []) off cs)) (F.m f (F.u l p (Dec.dec (setR (f y) off cs)))):=by subst hg; exact .fw h hy hp hF
theorem Lt.v {β:Type} {q:Unit->Prop} {x:Unit->β} {K:β->Prop} {v:β} (k:K v)
 (h:Nv q x v:=by first
  |exact .feu (by assumption) (by decide) (by assumption)
  |exact .feh (by assumption) (by first|assumption|exact .u (by assumption)|exact .u (.u (by assumption))) (by decide) (by assumption)
  |exact .fe (by first|assumption|exact .u (by assumption)|exact .u (.u (by assumption))) (by decide) (by assumption)
  |exact .fwu (by assumption) (by rfl) (by exact ⟨rfl,by decide⟩) (by assumption)
  |exact .fwh (by assumption) (by first|assumption|exact .u (by assumption)|exact .u (.u (by assumption))) (by rfl) (by exact ⟨rfl,by decide⟩) (by assumption)
  |exact .fw (by first|assumption|exact .u (by assumption)|exact .u (.u (by assumption))) (by rfl) (by exact ⟨rfl,by decide⟩) (by assumption)
  |exact .fx (by assumption) (by first|assumption|exact .u (by assumption)|exact .u (.u (by assumption))) (by rfl) (by assumption)
  |exact .fmh (by assumption) (by assumption) (by first|assumption|exact .u (by assumption)|exact .u (.u (by assumption))) (by rfl) (by assumption)
  |exact .fm (by assumption) (by first|assumption|exact .u (by assumption)|exact .u (.u (by assumption))) (by rfl) (by assumption)
  |exact .fh (by assumption) (by omega) (by rfl) (by assumption)
  |exact .fnh (by assumption) (by assumption)|exact .fnlh (by assumption) (by assumption)|exact .fn (by assumption)|exact .fnl (by assumption)):Lt q x K:=⟨h.1,h.2 ▸ k⟩
theorem Few.app (h:F.n l<=50000000) (h2:F.n l2<=50000000) (hF:F=fs:=by assumption):Few F (F.a l l2):=by
 subst hF
 refine ⟨?_⟩
 have h:(l.length:Int)<=50000000:=h
 have h2:(l2.length:Int)<=50000000:=h2
 show ((l ++ l2).length:Int)<=100000000
 rw [List.length_append]; omega
theorem AppL.fa {K:List (List V)->Nat->Prop} (k:K (F.m f (F.a l l2)) (F.l (F.m f (F.a l l2)))) (hF:F=fs:=by assumption) (h1:n=F.l (F.m f l):=by first|rfl|exact lenU)
  (h2:Few F l:=by assumption) (h3:Few F l2:=by assumption) (h4:bytes<=100000:=by decide):AppL n bytes (fun _=>F.m f l) (fun _=>F.m f l2) K:=by
 subst hF h1
 refine ⟨⟨rfl,?_⟩,?_⟩
 ·show (List.length (l.map f)+(l2.map f).length) * bytes<=_
  have h2:(l.length:Int)<=100000000:=h2.h
  have h3:(l2.length:Int)<=100000000:=h3.h
  rw [List.length_map,List.length_map]
  have:=Nat.mul_le_mul (show l.length+l2.length<=200000000 by omega) h4
  omega
 ·have e1:fs.m f (fs.a l l2)=fs.m f l ++ fs.m f l2:=List.map_append
  rw [e1] at k
  have e2:fs.l (fs.m f l ++ fs.m f l2)=fs.l (fs.m f l)+(fs.m f l2).length:=List.length_append
  rw [e2] at k; exact k
theorem AppL.f1 [Dec α] {row:List V} {K:List (List V)->Nat->Prop} (k:K (F.m f (F.a l [Dec.dec row])) (F.l (F.m f (F.a l [Dec.dec row])))) (hF:F=fs:=by assumption) (hy:f (Dec.dec row)=row:=by rfl) (h1:n=F.l (F.m f l):=by first|rfl|exact lenU)
  (h2:Few F l:=by first|assumption|exact .app (by assumption) (by assumption)) (h4:bytes<=100000:=by decide):AppL n bytes (fun _=>F.m f l) (fun _=>[row]) K:=by
 subst hF h1
 refine ⟨⟨rfl,?_⟩,?_⟩
 ·show (List.length (l.map f)+1) * bytes<=_
  have h2:(l.length:Int)<=100000000:=h2.h
  rw [List.length_map]
  have:=Nat.mul_le_mul (show l.length+1<=200000000 by omega) h4
  omega
 ·have e1:fs.m f (fs.a l [Dec.dec row])=fs.m f l ++ [row]:=by
   show (l ++ [Dec.dec row]).map f=l.map f ++ [row]
   rw [List.map_append]; simp [hy]
  rw [e1] at k
  have e2:fs.l (fs.m f l ++ [row])=fs.l (fs.m f l)+[row].length:=List.length_append
  rw [e2] at k; exact k
end
theorem CallQ.z {P:Program} {f:FuncId} {need:Unit->Prop} {as as':List V} {asx:Unit->List V} {plain:Bool} {K:V->Prop} {res:V} {outs:List V} {fr:Bool} (hc:CallsV P f as' res outs fr) (k:K res) (h:as=as':=by rfl)
 (hp:plain=true\/fr=true:=by first|exact .inl rfl|exact .inr rfl) (hn:need ():=by repeat' first|exact True.intro|exact rfl|assumption|exact shM|exact lenL|exact lenU|exact lenLU|refine ⟨?_,?_⟩):CallQ P f need as asx plain K:=.to hc h hp k hn
theorem CallI.z {P:Program} {f:FuncId} {need:Unit->Prop} {as as':List V} {plain noio:Bool} {ok:List V->Bool} {K:V->List V->Prop} {res:V} {outs:List V} {fr:Bool} (hc:CallsV P f as' res outs fr) (k:K res outs) (h:as=as':=by rfl)
  (hp:plain=true\/(fr=true/\noio=true):=by first|exact .inl rfl|exact .inr ⟨rfl,rfl⟩) (ho:ok outs=true:=by rfl) (hn:need ():=by repeat' first|exact True.intro|exact rfl|assumption|exact shM|exact lenL|exact lenU|exact lenLU|refine ⟨?_,?_⟩):CallI P f need as plain noio ok K :=
 CallI.go hc k h hp ho hn
theorem callsV_f {P0:Program} (hD:RegD P0) {f:FuncId} {fn:Func} (hf:P0.funcs[f]?=some fn) {t:FnT} (hok:okFn P0 fn t=true) {P:Program} {F:Fs} (hP:P=P0) (hF:F=fs) {args:List V} {res:V} {outs:List V} {fr:Bool}
  (hsh:args.map V.sh=args) (h:∀ R:St->Prop,(∀ st,LeaveL F.l args t.rvs res outs fr st->R st)->codeQ P F.l t.body (St.enterl F.l args t.ns) R (fun _ _=>False) R)
  (hl:args.length=t.k:=by rfl) (hio:iosOk t.pins 0 args=true:=by rfl) (hnm:args.all V.noMap=true:=by rfl):CallsV P f args res outs fr:=by
 subst hP
 refine callsV_l hD hf hok hl hio hsh (fun P' L R e1 e2 hR=>?_) hnm
 subst e1 hF
 have e:L=fs.l:=funext e2
 subst e
 exact h R hR
end Go.Ab

namespace Go.Ab
open Go
variable {C:Ctx}
theorem RB1_sh {v:V} {u:Value} (h:RB1 C v u):RB1 C v.sh u:=RB1_shG h C.G
theorem sh_agg {v:V} (h:∀ cs,v≠.agg cs):∀ cs,v.sh≠.agg cs:=fun cs e=>by
 cases v <;> simp only [V.sh] at e <;> first|exact h _ rfl|cases e
theorem sh_tup {v:V} (h:∀ cs,v≠.tup cs):∀ cs,v.sh≠.tup cs:=fun cs e=>by
 cases v <;> simp only [V.sh] at e <;> first|exact h _ rfl|cases e
theorem RB2_sh {v:V} {u:Value} (h:RB2 C v u):RB2 C v.sh u:=by
 by_cases hv:∃ cs,v=.agg cs
 ·obtain ⟨cs,rfl⟩:=hv
  obtain ⟨us,rfl,h1,h2,h3⟩:=h
  refine ⟨us,rfl,by rw [shL_len]; exact h1,h2,fun j c hj=>?_⟩
  rw [shL_get,Option.map_eq_some_iff] at hj
  obtain ⟨c',q,rfl⟩:=hj
  exact RB1_sh (h3 j c' q)
 ·have hne:∀ cs,v≠.agg cs:=fun cs e=>hv ⟨cs,e⟩
  rw [RB2_other hne] at h
  rw [RB2_other (sh_agg hne)]
  exact RB1_sh h
theorem RB_other {v:V} {u:Value} (h:∀ cs,v≠.tup cs):RB C v u=RB2 C v u:=by
 cases v <;> first|rfl|exact absurd rfl (h _)
theorem RB_sh {v:V} {u:Value} (h:RB C v u):RB C v.sh u:=by
 by_cases hv:∃ cs,v=.tup cs
 ·obtain ⟨cs,rfl⟩:=hv
  obtain ⟨us,rfl,h1,h3⟩:=h
  refine ⟨us,rfl,by rw [shL_len]; exact h1,fun j c hj=>?_⟩
  rw [shL_get,Option.map_eq_some_iff] at hj
  obtain ⟨c',q,rfl⟩:=hj
  exact RB2_sh (h3 j c' q)
 ·have hne:∀ cs,v≠.tup cs:=fun cs e=>hv ⟨cs,e⟩
  rw [RB_other hne] at h
  rw [RB_other (sh_tup hne)]
  exact RB2_sh h
theorem ownsL_sh:∀ (cs:List V) (us:List Value),ownsL (V.shL cs) us=ownsL cs us
 |[],_=>rfl
 |_::_,[]=>rfl
 |c::cs,u::us=>by simp only [V.shL,ownsL,owns1_sh,ownsL_sh cs us]
theorem owns2_sh (v:V) (u:Value):owns2 v.sh u=owns2 v u:=by
 by_cases hv:∃ cs,v=.agg cs
 ·obtain ⟨cs,rfl⟩:=hv
  have e:∀ w,(∀ us,w≠.agg us)->owns2 (V.agg cs).sh w=owns2 (.agg cs) w:=fun w hw=>by cases w <;> first|rfl|exact absurd rfl (hw _)
  by_cases hu:∃ us,u=.agg us
  ·obtain ⟨us,rfl⟩:=hu; exact ownsL_sh cs _
  ·exact e u fun us q=>hu ⟨us,q⟩
 ·have hne:∀ cs,v≠.agg cs:=fun cs e=>hv ⟨cs,e⟩
  rw [owns2_other hne,owns2_other (sh_agg hne),owns1_sh]
theorem ownsT2_sh:∀ (cs:List V) (us:List Value),ownsT2 (V.shL cs) us=ownsT2 cs us
 |[],_=>rfl
 |_::_,[]=>rfl
 |c::cs,u::us=>by simp only [V.shL,ownsT2,owns2_sh,ownsT2_sh cs us]
theorem ownsR_sh (v:V) (u:Value):ownsR v.sh u=ownsR v u:=by
 by_cases hv:∃ cs,v=.tup cs
 ·obtain ⟨cs,rfl⟩:=hv
  have e:∀ w,(∀ us,w≠.tuple us)->ownsR (V.tup cs).sh w=ownsR (.tup cs) w:=fun w hw=>by cases w <;> first|rfl|exact absurd rfl (hw _)
  by_cases hu:∃ us,u=.tuple us
  ·obtain ⟨us,rfl⟩:=hu; exact ownsT2_sh cs _
  ·exact e u fun us q=>hu ⟨us,q⟩
 ·have hne:∀ cs,v≠.tup cs:=fun cs e=>hv ⟨cs,e⟩
  have e1:ownsR v u=owns2 v u:=by cases v <;> first|rfl|exact absurd rfl (hne _)
  have e2:ownsR v.sh u=owns2 v.sh u:=by
   have:=sh_tup hne
   generalize v.sh=w at this
   cases w <;> first|rfl|exact absurd rfl (this _)
  rw [e1,e2,owns2_sh]
theorem CallsV.asRead {P:Program} {f:FuncId} {args:List V} {res:V} {outs:List V} {fr:Bool} (h:CallsV P f args res outs fr):CallsV P f args res.sh outs false:=by
 intro w F G vs hl hR hn h1 h2 h3 h4
 refine (h w F G vs hl hR hn h1 h2 h3 h4).mono ?_
 rintro e w' ⟨v,Fr,rfl,hp⟩
 refine ⟨v,Fr,rfl,?_⟩
 have hle:Le (bare w' (fun b off=>(fr=false/\F b off)\/Fr b off) G) (bare w' (fun b off=>(false=false/\F b off)\/Fr b off) G) :=
  ⟨fun b off hf=>⟨hf.elim (fun q=>.inl ⟨rfl,q.2⟩) .inr,rfl⟩,fun _ hg=>hg,fun _ _ _ e=>(by cases e),fun _ _ _ _ e=>(by cases e),fun _ _ _ _ e=>(by cases e)⟩
 exact { hp with
  rres:=RB_sh (RB_mono hle rfl hp.rres)
  nodup:=by rw [ownsR_sh]; exact hp.nodup
  own:=by rw [ownsR_sh]; exact hp.own }
end Go.Ab

namespace Go.Ab
open Go Go.ChangeShapes
def Typed (P:Program) (B:Nat):Nat->TypeId->List V->Prop
 |0,_,_=>False
 |d+1,t,vs=>match P.underlying t with
  |some .bool=>∃ b,vs=[.bool b]
  |some (.int k)=>∃ n,(Lit.int k n).wf=true/\vs=[.int k n]
  |some .string=>∃ s:ByteArray,s.size<=maxLen/\vs=[.str s]
  |some (.slice e)=>∃ rows:List (List V),rows.length<=maxLen/\rows.length * P.bytesOf e<=B/\(∀ r∈rows,r.length=P.cellsOf e/\Typed P B d e r)/\vs=[.sl false (P.cellsOf e) rows]
  |some (.struct fs)=>vs.length=P.cellsOf t/\∀ f∈fs.toList,Typed P B d f.type ((vs.drop f.offset).take (P.cellsOf f.type))
  |some (.array n e)=>vs.length=P.cellsOf t/\∀ i,i < n->Typed P B d e ((vs.drop (i * P.cellsOf e)).take (P.cellsOf e))
  |_=>False
def tiles (P:Program):List Field->Nat->Nat->Bool
 |[],off,total=>off == total
 |f::fs,off,total=>f.offset == off&&tiles P fs (off+P.cellsOf f.type) total
def tyOk (P:Program):Nat->TypeId->Bool
 |0,_=>false
 |d+1,t=>match P.underlying t with
  |some .bool|some (.int _)|some .string=>P.cellsOf t == 1
  |some (.slice e)=>P.cellsOf t == 1&&tyOk P d e&&decide (0 < P.cellsOf e)
  |some (.struct fs)=>tiles P fs.toList 0 (P.cellsOf t)&&fs.toList.all fun f=>tyOk P d f.type
  |some (.array n e)=>n * P.cellsOf e == P.cellsOf t&&tyOk P d e
  |_=>false
def Good (C:Ctx) (cs:List Value) (j:Nat) (c:V):Prop:=∃ u,cs[j]?=some u/\u.oneCell'=true/\c.closed=true/\R C c u
theorem Good.seg {C:Ctx} {cs:List Value} {off n j:Nat} {c:V} (h:Good C ((cs.drop off).take n) j c):Good C cs (off+j) c:=by
 obtain ⟨u,h1,h2⟩:=h
 rw [List.getElem?_take] at h1
 split at h1
 ·rw [List.getElem?_drop] at h1; exact ⟨u,h1,h2⟩
 ·cases h1
section
variable {B:Nat} {H:Type} {enc:TypeId×Value->H} {P:Program} {W:World} {held:Bool} {F:Nat->Nat->Prop} {G:Nat->Prop}
theorem weights_all {ds:List (DataW H)} {e:TypeId} {d:DataW H} (h:d∈ds):∀ w∈d.weights P e,w∈DataW.weightsAll P e ds:=by
 induction ds with
 |nil=>cases h
 |cons x l ih =>
  intro w hw
  simp only [DataW.weightsAll,List.mem_append]
  rcases List.mem_cons.1 h with rfl|h
  ·exact .inl hw
  ·exact .inr (ih h w hw)
theorem fields_typed {d fuel:Nat} {cs:List Value} (ih:∀ (t:TypeId) (cs:List Value) (x:DataW H×List MemPlace),tyOk P d t=true->DataW.trod enc P W 0 (fun _=>true) held fuel t cs=some x->(∀ w∈x.1.weights P t,w<=B) ->
   ∃ vs:List V,vs.length=P.cellsOf t/\Typed P B d t vs/\∀ j c,vs[j]?=some c->Good (bare W F G) cs j c) :
  ∀
   (fs:List Field) (off total:Nat),tiles P fs off total=true->(∀ f∈fs,tyOk P d f.type=true/\∃ x,DataW.trod enc P W 0 (fun _=>true) held fuel f.type ((cs.drop f.offset).take (P.cellsOf f.type))=some x/\∀ w∈x.1.weights P f.type,w<=B) ->
   off<=total/\∃ vs:List V,vs.length=total - off/\(∀ f∈fs,off<=f.offset/\Typed P B d f.type ((vs.drop (f.offset - off)).take (P.cellsOf f.type)))/\∀ j c,vs[j]?=some c->Good (bare W F G) cs (off+j) c
 |[],off,total,ht,_=>by
  simp only [tiles,beq_iff_eq] at ht
  subst ht
  exact ⟨Nat.le_refl _,[],by simp,by simp,by simp⟩
 |f :: fs,off,total,ht,hf=>by
  simp only [tiles,Bool.and_eq_true,beq_iff_eq] at ht
  obtain ⟨rfl,ht⟩:=ht
  obtain ⟨hle,vs,h1,h2,h3⟩:=fields_typed ih fs _ total ht (fun g hg=>hf g (by simp [hg]))
  obtain ⟨hk,x,hx,hw⟩:=hf f (by simp)
  obtain ⟨us,g1,g2,g3⟩:=ih _ _ _ hk hx hw
  refine ⟨by omega,us ++ vs,by simp; omega,fun g hg=>?_,fun j c hj=>?_⟩
  ·rcases List.mem_cons.1 hg with rfl|hg
   ·refine ⟨Nat.le_refl _,?_⟩
    rw [Nat.sub_self,List.drop_zero,List.take_append_of_le_length (by omega),List.take_of_length_le (by omega)]
    exact g2
   ·obtain ⟨q1,q2⟩:=h2 g hg
    refine ⟨by omega,?_⟩
    have e:(us ++ vs).drop (g.offset - f.offset)=vs.drop (g.offset - (f.offset+P.cellsOf f.type)):=by
     rw [List.drop_append,List.drop_eq_nil_of_le (by omega),List.nil_append]
     congr 1; omega
    rw [e]; exact q2
  ·by_cases hlt:j < us.length
   ·rw [List.getElem?_append_left hlt] at hj
    exact (g3 j c hj).seg
   ·rw [List.getElem?_append_right (by omega)] at hj
    have:=h3 _ c hj
    rwa [show f.offset+P.cellsOf f.type+(j - us.length)=f.offset+j by omega] at this
theorem elems_typed {d fuel:Nat} {cs:List Value} {e:TypeId} (he:tyOk P d e=true) (ih:∀ (t:TypeId) (cs:List Value) (x:DataW H×List MemPlace),tyOk P d t=true->DataW.trod enc P W 0 (fun _=>true) held fuel t cs=some x->(∀ w∈x.1.weights P t,w<=B) ->
   ∃ vs:List V,vs.length=P.cellsOf t/\Typed P B d t vs/\∀ j c,vs[j]?=some c->Good (bare W F G) cs j c) :
  ∀
   (n:Nat),(∀ i,i < n->∃ x,DataW.trod enc P W 0 (fun _=>true) held fuel e ((cs.drop (i * P.cellsOf e)).take (P.cellsOf e))=some x/\∀ w∈x.1.weights P e,w<=B) ->
   ∃ vs:List V,vs.length=n * P.cellsOf e/\(∀ i,i < n->Typed P B d e ((vs.drop (i * P.cellsOf e)).take (P.cellsOf e)))/\∀ j c,vs[j]?=some c->Good (bare W F G) cs j c
 |0,_=>⟨[],by simp,by simp,by simp⟩
 |n + 1,hx=>by
  obtain ⟨vs,h1,h2,h3⟩:=elems_typed he ih n (fun i hi=>hx i (by omega))
  obtain ⟨x,hx',hw⟩:=hx n (by omega)
  obtain ⟨us,g1,g2,g3⟩:=ih _ _ _ he hx' hw
  refine ⟨vs ++ us,by simp [h1,g1,Nat.succ_mul],fun i hi=>?_,fun j c hj=>?_⟩
  ·by_cases e':i=n
   ·subst e'
    rw [List.drop_append,List.drop_eq_nil_of_le (by omega),List.nil_append,h1,Nat.sub_self,List.drop_zero,List.take_of_length_le (by omega)]
    exact g2
   ·have hlt:i < n:=by omega
    have hle:(i+1) * P.cellsOf e<=n * P.cellsOf e:=Nat.mul_le_mul_right _ hlt
    rw [Nat.succ_mul] at hle
    rw [List.drop_append_of_le_length (by omega),List.take_append_of_le_length (by simp; omega)]
    exact h2 i hlt
  ·by_cases hlt:j < vs.length
   ·rw [List.getElem?_append_left hlt] at hj; exact h3 j c hj
   ·rw [List.getElem?_append_right (by omega)] at hj
    have:=(g3 _ c hj).seg
    rwa [show n * P.cellsOf e+(j - vs.length)=j by omega] at this
theorem trod_typed (hF:∀ b off,b < W.heap.size->F b off):∀ (d fuel:Nat) (t:TypeId) (cs:List Value) (x:DataW H×List MemPlace),tyOk P d t=true->DataW.trod enc P W 0 (fun _=>true) held fuel t cs=some x->(∀ w∈x.1.weights P t,w<=B) ->
  ∃ vs:List V,vs.length=P.cellsOf t/\Typed P B d t vs/\∀ j c,vs[j]?=some c->Good (bare W F G) cs j c
 |0,_,_,_,_,h,_,_=>by simp [tyOk] at h
 |d+1,0,t,cs,x,_,h,_=>by simp [DataW.trod] at h
 |d + 1, fuel + 1,t,cs,x,hok,h,hw=>by
  have ih:=trod_typed hF d fuel
  unfold tyOk at hok
  unfold Typed
  cases hu:P.underlying t with
  |none=>rw [hu] at hok; simp at hok
  |some ty =>
   rw [hu] at hok
   cases ty <;> simp only [Bool.false_eq_true] at hok <;> simp only
   case bool =>
    unfold DataW.trod at h
    rw [hu] at h
    split at h <;> simp_all
    rename_i b
    exact ⟨[.bool b],by simp,by cases b <;> simp,fun j c hj=>by
     cases j with
     |zero=>simp at hj; subst hj; exact ⟨_,rfl,rfl,rfl,.bool b⟩
     |succ j=>simp at hj⟩
   case int k =>
    unfold DataW.trod at h
    rw [hu] at h
    split at h <;> simp_all
    rename_i n _
    obtain ⟨⟨rfl,_⟩,_⟩:=h
    exact ⟨[.int _ n],by simp,⟨n,by simp_all,rfl⟩,fun j c hj=>by
     cases j with
     |zero=>simp at hj; subst hj; exact ⟨_,rfl,rfl,rfl,.int _ n⟩
     |succ j=>simp at hj⟩
   case string =>
    unfold DataW.trod at h
    rw [hu] at h
    split at h <;> simp_all
    rename_i s
    exact ⟨[.str s],by simp,⟨s,h.1,rfl⟩,fun j c hj=>by
     cases j with
     |zero=>simp at hj; subst hj; exact ⟨_,rfl,rfl,rfl,.str s⟩
     |succ j=>simp at hj⟩
   case struct fs =>
    simp only [Bool.and_eq_true,List.all_eq_true] at hok
    obtain ⟨xs,n,e,hxe,hl,hlen,hf⟩:=DataW.trod_struct hu h
    cases e
    rw [hxe] at hw
    simp only [DataW.weights,hu] at hw
    obtain ⟨_,vs,h1,h2,h3⟩:=fields_typed (cs:=cs) ih fs.toList 0 (P.cellsOf t) hok.1 (fun f hf'=>⟨hok.2 f hf',by
     obtain ⟨i,hi⟩:=List.getElem?_of_mem hf'
     have hi':fs[i]?=some f:=by simpa using hi
     have:=hf i f hi'
     have hlt:=(Array.getElem?_eq_some_iff.1 hi').1
     rw [List.getElem?_eq_getElem (by omega)] at this
     refine ⟨_,this,fun w hwm=>hw w (DataW.weights_mem_each (j:=i) (t:=f.type) (d:=(xs[i]'(by omega)).1) ?_ ?_ w hwm)⟩
     ·rw [List.getElem?_map]
      have:fs.toList[i]?=some f:=hi
      rw [this]; rfl
     ·rw [List.getElem?_map,List.getElem?_eq_getElem (by omega)]; rfl⟩)
    refine ⟨vs,by simpa using h1,⟨by simpa using h1,fun f hf'=>by simpa using (h2 f hf').2⟩,fun j c hj=>by simpa using h3 j c hj⟩
   case array n e =>
    simp only [Bool.and_eq_true,beq_iff_eq] at hok
    obtain ⟨xs,m,e',hxe,hl,hlen,hf⟩:=DataW.trod_array hu h
    cases e'
    rw [hxe] at hw
    simp only [DataW.weights,hu] at hw
    obtain ⟨vs,h1,h2,h3⟩:=elems_typed (cs:=cs) hok.2 ih n (fun i hi=>by
     have:=hf i hi
     rw [List.getElem?_eq_getElem (by omega)] at this
     exact ⟨_,this,fun w hwm=>hw w (weights_all (List.mem_map.2 ⟨_,List.getElem_mem (by omega),rfl⟩) w hwm)⟩)
    exact ⟨vs,h1.trans hok.1,⟨h1.trans hok.1,h2⟩,h3⟩
   case slice e =>
    simp only [Bool.and_eq_true,beq_iff_eq,decide_eq_true_eq] at hok
    obtain ⟨⟨hc1,he⟩,hpos⟩:=hok
    rcases DataW.trod_slice hu h with ⟨rfl,_⟩|⟨a,len,cap,elems,rest,n,en,rfl,hxe,_,hlc,hcm,hel,hee,hsp,_⟩
    ·exact ⟨[.sl false (P.cellsOf e) []],by simp [hc1],⟨[],by simp,by simp,by simp,rfl⟩,fun j c hj=>by
      cases j with
      |zero=>simp at hj; subst hj; exact ⟨_,rfl,rfl,rfl,.slNil false _⟩
      |succ j=>simp at hj⟩
    ·cases en
     rw [hxe] at hw
     simp only [DataW.weights,hu] at hw
     have hsz:len * P.bytesOf e<=B:=by
      have:=hw _ (List.mem_cons_self ..)
      simp only [List.length_map,hel] at this
      rw [Nat.add_mul] at this
      omega
     have each:∀ i,i < len->∃ r:List V,r.length=P.cellsOf e/\Typed P B d e r/\∃ us,W.cells? 0 (a.add (i * P.cellsOf e)) (P.cellsOf e)=some us/\∀ j c,r[j]?=some c->Good (bare W F G) us j c:=fun i hi=>by
      have:=hee i hi
      rw [List.getElem?_eq_getElem (by omega)] at this
      obtain ⟨us,hus,hx⟩:=Option.bind_eq_some_iff.1 this
      obtain ⟨vs,h1,h2,h3⟩:=ih _ _ _ he hx (fun w hwm=>hw w (List.mem_cons_of_mem _ (List.mem_append_left _ (weights_all (List.mem_map.2 ⟨_,List.getElem_mem (by omega),rfl⟩) w hwm))))
      exact ⟨vs,h1,h2,us,hus,h3⟩
     by_cases hcap:cap=0
     ·subst hcap
      have:len=0:=by omega
      subst this
      exact ⟨[.sl false (P.cellsOf e) []],by simp [hc1],⟨[],by simp,by simp,by simp,rfl⟩,fun j c hj=>by
       cases j with
       |zero=>simp at hj; subst hj; exact ⟨_,rfl,rfl,rfl,.slZ false _ a⟩
       |succ j=>simp at hj⟩
     ·-- the first element,or the first spare one,is there
      have hspot:a.spot=none:=by
       have h0:∃ us,W.cells? 0 (a.add (0 * P.cellsOf e)) (P.cellsOf e)=some us:=by
        by_cases hl0:0 < len
        ·obtain ⟨_,_,_,us,hus,_⟩:=each 0 hl0
         exact ⟨us,hus⟩
        ·have hl:len=0:=by omega
         subst hl
         have:=(hsp rfl).2 0 (by omega)
         rw [List.getElem?_eq_getElem (by have:=(hsp rfl).1; omega)] at this
         obtain ⟨us,hus,_⟩:=Option.bind_eq_some_iff.1 this
         exact ⟨us,by simpa using hus⟩
       obtain ⟨us,hus⟩:=h0
       have hc:=(World.cells?_some hus).2.2 0 hpos
       simp only [Nat.zero_mul,Addr.add,if_true] at hc
       unfold World.cell? at hc
       cases hb:W.heap[a.block]? with
       |none=>rw [hb] at hc; simp at hc; have h2:=(World.cells?_some hus).2.1; rw [hc] at h2; simp at h2; omega
       |some o =>
        rw [hb] at hc
        cases hs:a.spot with
        |none=>rfl
        |some z =>
         exfalso
         have hlen:=(World.cells?_some hus).2.1
         rw [List.getElem?_eq_getElem (by omega)] at hc
         cases o <;> simp [hs] at hc
      obtain ⟨b,off,spot⟩:=a
      simp only at hspot
      subst hspot
      let row:Nat->List V:=fun i=>if hi:i < len then Classical.choose (each i hi) else []
      have hrow:∀ i (hi:i < len),row i=Classical.choose (each i hi):=fun i hi=>by simp only [row]; rw [dif_pos hi]
      let rows:=(List.range len).map row
      have hrl:rows.length=len:=by simp [rows]
      have hat:∀ i j c,at2 rows i j=some c->i < len/\∃ u,W.cell? ⟨b,off+i * P.cellsOf e+j,none⟩=some u/\u.oneCell'=true/\c.closed=true/\R (bare W F G) c u:=fun i j c hc=>by
       unfold at2 at hc
       have hi:i < len:=by
        by_cases hi:i < len
        ·exact hi
        ·rw [List.getElem?_eq_none (by omega)] at hc; cases hc
       refine ⟨hi,?_⟩
       rw [List.getElem?_eq_getElem (by omega)] at hc
       simp only [rows,List.getElem_map,List.getElem_range,Option.bind_some] at hc
       rw [hrow i hi] at hc
       obtain ⟨q1,q2,us,hus,q3⟩:=Classical.choose_spec (each i hi)
       obtain ⟨u,hu1,hu2,hu3,hu4⟩:=q3 j c hc
       have hj:j < P.cellsOf e:=by rw [<- q1]; exact (List.getElem?_eq_some_iff.1 hc).1
       have hcell:=(World.cells?_some hus).2.2 j hj
       refine ⟨u,?_,hu2,hu3,hu4⟩
       rw [<- hu1,<- hcell]
       congr 1
       simp only [Addr.add]
       split <;> split <;> simp_all <;> omega
      refine ⟨[.sl false (P.cellsOf e) rows],by simp [hc1],⟨rows,by rw [hrl]; omega,by rw [hrl]; exact hsz,fun r hr=>?_,rfl⟩,fun j c hj=>?_⟩
      ·obtain ⟨i,hi,rfl⟩:=List.mem_map.1 hr
       rw [List.mem_range] at hi
       rw [hrow i hi]
       obtain ⟨q1,q2,_⟩:=Classical.choose_spec (each i hi)
       exact ⟨q1,q2⟩
      ·cases j with
       |succ j=>simp at hj
       |zero =>
        simp at hj; subst hj
        refine ⟨_,rfl,rfl,rfl,?_⟩
        have:=R.sl (C:=bare W F G) false (P.cellsOf e) rows b off cap (fun i j=>(W.cell? ⟨b,off+i * P.cellsOf e+j,none⟩).getD undef) (by omega) hcm (fun r hr=>by
          obtain ⟨i,hi,rfl⟩:=List.mem_map.1 hr
          rw [List.mem_range] at hi
          rw [hrow i hi]
          exact (Classical.choose_spec (each i hi)).1) (fun e=>by cases e)
         (fun i j c hc=>by
          obtain ⟨hi,u,h1,h2,_,_⟩:=hat i j c hc
          simp only [bare,h1,Option.getD_some]
          refine ⟨by trivial,hF _ _ ?_,h2⟩
          unfold World.cell? at h1
          cases hb:W.heap[b]? with
          |none=>rw [hb] at h1; cases h1
          |some o=>exact (Array.getElem?_eq_some_iff.1 hb).1)
         (fun i j c hc=>by obtain ⟨_,u,_,_,h3,_⟩:=hat i j c hc; exact h3)
         (fun i j c hc=>by obtain ⟨_,u,h1,_,_,h4⟩:=hat i j c hc; simp only [h1,Option.getD_some]; exact h4)
        rw [hrl] at this
        exact this
end
end Go.Ab

namespace Go.Ab
open Go
variable {C:Ctx}
def Nl (a b:V):Prop:=a=b\/∃ s fr,a=.own s []/\b=.sl fr s []
theorem Nl.rf {a:V}:Nl a a:=.inl rfl
theorem Nl.sl {s:Nat} {fr:Bool}:Nl (.own s []) (.sl fr s []):=.inr ⟨s,fr,rfl,rfl⟩
def NlL:List V->List V->Prop
 |a::l,b::m=>Nl a b/\NlL l m
 |[],[]=>True
 |_,_=>False
theorem RB1_nl {a b:V} {u:Value} (h:Nl a b) (r:RB1 C a u):RB1 C b u/\List.Sublist (owns1 b u) (owns1 a u):=by
 rcases h with rfl|⟨s,fr,rfl,rfl⟩
 ·exact ⟨r,.refl _⟩
 ·have hz:owns1 (.sl fr s []) u=[]:=by cases u <;> rfl
  refine ⟨?_,by rw [hz]; exact List.nil_sublist _⟩
  have r':OwnR C s [] u:=r
  rcases r' with ⟨-,rfl⟩|⟨-,b,off,rfl⟩|⟨b,cap,cur,e,g,rfl,h0,h1,h2,-⟩
  ·exact .slNil fr s
  ·exact .slZ fr s _
  ·have q:R C (.sl fr s []) (.slice (some ⟨b,0,none⟩) ([]:List (List V)).length cap) :=
    .sl fr s [] b 0 cap (fun _ _=>undef) h1 h2 (by simp) (fun _ e=>absurd rfl e) (fun i j c h=>by simp [at2] at h) (fun i j c h=>by simp [at2] at h) (fun i j c h=>by simp [at2] at h)
   exact q
theorem nlL_len:∀ {l m:List V},NlL l m->l.length=m.length
 |[],[],_=>rfl
 |_::_,_::_,h=>by simp only [List.length_cons,nlL_len h.2]
 |[],_::_,h=>h.elim
 |_::_,[],h=>h.elim
theorem nlL_get:∀ {l m:List V},NlL l m->∀ (j:Nat) (c:V),m[j]?=some c->∃ a,l[j]?=some a/\Nl a c
 |[],[],_,_,_,h=>by simp at h
 |a::_,_::_,h,0,c,hc=>by simp at hc; subst hc; exact ⟨a,by simp,h.1⟩
 |_::_,_::_,h,j+1,c,hc=>by
  obtain ⟨a,h1,h2⟩:=nlL_get h.2 j c (by simpa using hc)
  exact ⟨a,by simpa using h1,h2⟩
 |[],_::_,h,_,_,_=>h.elim
 |_::_,[],h,_,_,_=>h.elim
theorem nlL_owns:∀ {l m:List V} {us:List Value},NlL l m->(∀ (j:Nat) (c:V),l[j]?=some c->RB1 C c (us.getD j undef))->List.Sublist (ownsL m us) (ownsL l us)
 |[],[],_,_,_=>.refl _
 |_::_,_::_,[],_,_=>.refl _
 |a::l,b::m,u::us,h,hr=>by
  have h1:=(RB1_nl h.1 (u:=u) (by simpa using hr 0 a (by simp))).2
  have h2:=nlL_owns (us:=us) h.2 fun j c hc=>by simpa using hr (j+1) c (by simpa using hc)
  simp only [ownsL]
  exact h1.append h2
 |[],_::_,_,h,_=>h.elim
 |_::_,[],_,h,_=>h.elim
theorem RB2_nl {l m:List V} {u:Value} (h:NlL l m) (r:RB2 C (.agg l) u):RB2 C (.agg m) u/\List.Sublist (owns2 (.agg m) u) (owns2 (.agg l) u):=by
 obtain ⟨us,rfl,h1,h2,h3⟩:=r
 refine ⟨⟨us,rfl,(nlL_len h).symm.trans h1,h2,fun j c hc=>?_⟩,?_⟩
 ·obtain ⟨a,ha,hn⟩:=nlL_get h j c hc
  exact (RB1_nl hn (h3 j a ha)).1
 ·exact nlL_owns h h3
theorem RB_nl {l m x:List V} {u:Value} (h:NlL l m) (r:RB C (.tup (.agg l::x)) u):RB C (.tup (.agg m::x)) u/\List.Sublist (ownsR (.tup (.agg m::x)) u) (ownsR (.tup (.agg l::x)) u):=by
 obtain ⟨us,rfl,h1,h3⟩:=r
 have h0:=RB2_nl h (u:=us.getD 0 undef) (h3 0 _ (by simp))
 refine ⟨⟨us,rfl,by simpa using h1,fun j c hc=>?_⟩,?_⟩
 ·cases j with
  |zero=>simp at hc; subst hc; exact h0.1
  |succ j=>exact h3 (j+1) c (by simpa using hc)
 ·cases us with
  |nil=>exact .refl _
  |cons u us =>
   have:List.Sublist (owns2 (.agg m) u) (owns2 (.agg l) u):=by simpa using h0.2
   exact this.append (.refl (ownsT2 x us))
theorem CallsV.nlt {P:Program} {f:FuncId} {args:List V} {l m x:List V} {outs:List V} {fr:Bool} (h:CallsV P f args (.tup (.agg l::x)) outs fr) (hn:NlL l m):CallsV P f args (.tup (.agg m::x)) outs false:=by
 intro w F G vs hl hR hd h1 h2 h3 h4
 refine (h w F G vs hl hR hd h1 h2 h3 h4).mono ?_
 rintro e w' ⟨v,Fr,rfl,hp⟩
 refine ⟨v,Fr,rfl,?_⟩
 have hle:Le (bare w' (fun b off=>(fr=false/\F b off)\/Fr b off) G) (bare w' (fun b off=>(false=false/\F b off)\/Fr b off) G) :=
  ⟨fun b off hf=>⟨hf.elim (fun q=>.inl ⟨rfl,q.2⟩) .inr,rfl⟩,fun _ hg=>hg,fun _ _ _ e=>(by cases e),fun _ _ _ _ e=>(by cases e),fun _ _ _ _ e=>(by cases e)⟩
 have hr:=RB_nl hn hp.rres
 exact { hp with
  rres:=RB_mono hle rfl hr.1
  nodup:=(hr.2.append (.refl _)).nodup hp.nodup
  own:=fun b hb=>hp.own b ((hr.2.append (.refl _)).subset hb) }
end Go.Ab
