/-
  Each operation of the abstract machine is what the model's operation does: what only computes.
  Each operation of the abstract machine is what the model's operation does: places, parts, lengths, slices.
  Each operation of the abstract machine is what the model's operation does: what makes memory.
  Each operation of the abstract machine is what the model's operation does: stores, literals of structs, own slices that become objects, appends.
  Each operation of the abstract machine is what the model's operation does: stores.
  Each operation of the abstract machine is what the model's operation does: own slices that become objects; appends.
-/
import Derived.Laws.Slices
import Derived.Great.BuildSlice
import Derived.Test.YtkanpbjjabdalaaK1
set_option linter.all false
namespace Go.Ab
open Go
variable {E:Ent} {n:Sz} {C:Ctx} {st:St} {a:Act} {P:Program}
def Snd (P:Program) (q:O):Prop :=
 ∀
  {E:Ent} {n:Sz} {C:Ctx} {st:St} {a:Act} {o:Oper} {d:Option Nat} {K:St->Prop} {next:Act->World->Prop} {Q:Exit->Act->World->Prop},
  Inv E n C st a->okOp P q o.op=true->okDst n d o.dst=true->eff P q d st K->(∀ C' st' a',Inv E n C' st' a'->K st'->next a' C'.w)->(n.nomap=true->q.mapFree=true)->o.wp P a C.w next Q
theorem snd_load {agg:Bool} {k:Nat} {x:X}:Snd P (.load agg k x):=fun h1 h2 h3 h4 h5 _=>run_load_op h1 h2 h3 h4 h5
theorem loadb_load {st:St} {k:Nat} {x:X} {d:Option Nat} {K:St->Prop} (h:eff P (.loadb k x) d st K):eff P (.load true k x) d st K:=by
 simp only [eff] at h ⊢
 generalize x.ev st=X at h ⊢
 cases X <;> first|exact h.elim|skip
 rename_i r off
 simp only at h ⊢
 generalize st.heap r=O at h ⊢
 cases O <;> first|exact h.elim|exact h
theorem snd_loadb {k:Nat} {x:X}:Snd P (.loadb k x):=by
 intro E n C st a o d K next Q h1 h2 h3 h4 h5 _
 have e:okOp P (.load true k x) o.op=okOp P (.loadb k x) o.op:=by cases o.op <;> rfl
 exact run_load_op h1 (e.trans h2) h3 (loadb_load h4) h5
theorem snd_mv {x:X}:Snd P (.mv x):=by
 intro E n C st a o d K next Q hinv hok hd h hn _
 cases hop:o.op <;> rw [hop] at hok <;> simp only [okOp,Bool.false_eq_true] at hok
 all_goals
  rename_i y
  exact wp_value (u:=a.eval y) (w':=C.w) (by simp [execOp,hop]) (hn C _ _ (hinv.put hd (hinv.ev hok)) h)
theorem R_bool {b:Bool} {u:Value} (h:R C (.bool b) u):u=.bool b:=by cases h; rfl
theorem R_int {k:IntKind} {m:Int} {u:Value} (h:R C (.int k m) u):u=.int k m:=by cases h; rfl
theorem R_str {s:ByteArray} {u:Value} (h:R C (.str s) u):u=.string s:=by cases h; rfl
theorem snd_pick {c x y:X}:Snd P (.pick c x y):=by
 intro E n C st a o d K next Q hinv hok hd h hn _
 cases hop:o.op <;> rw [hop] at hok <;> simp only [okOp,Bool.false_eq_true,Bool.and_eq_true] at hok
 rename_i c' x' y'
 obtain ⟨⟨h1,h2⟩,h3⟩:=hok
 have hc:=hinv.ev h1
 have hx:=hinv.ev h2
 have hy:=hinv.ev h3
 have fin:∀ (t:Bool) (v:V),c.ev st=.bool t->R C v (if t then a.eval x' else a.eval y')->K (st.put d v)->o.wp P a C.w next Q:=by
  intro t v ht hv hK
  rw [ht] at hc
  have:=R_bool hc
  refine wp_value (u:=if t then a.eval x' else a.eval y') (w':=C.w) ?_ (hn C _ _ (hinv.put hd hv) hK)
  simp [execOp,hop,this,asBool]
 simp only [eff] at h
 split at h
 ·rename_i t p q e1 e2 e3
  refine fin t _ e1 ?_ h
  rw [e2] at hx; rw [e3] at hy
  cases t
  ·simpa using hy
  ·simpa using hx
 ·rename_i t e1 hne
  cases t
  ·exact fin false _ e1 (by simpa using hy) (h.2 rfl)
  ·exact fin true _ e1 (by simpa using hx) (h.1 rfl)
 ·exact h.elim
theorem snd_not {x:X}:Snd P (.not x):=by
 intro E n C st a o d K next Q hinv hok hd h hn _
 cases hop:o.op <;> rw [hop] at hok <;> simp only [okOp,Bool.false_eq_true,Bool.and_eq_true,beq_iff_eq] at hok
 rename_i u t y
 obtain ⟨rfl,h1⟩:=hok
 have hx:=hinv.ev h1
 simp only [eff] at h
 split at h
 ·rename_i b e
  rw [e] at hx
  exact wp_value (u:=.bool !b) (w':=C.w) (by simp [execOp,hop,R_bool hx,Op.unary]) (hn C _ _ (hinv.put hd (.bool _)) h)
 ·exact h.elim
theorem snd_neg {x:X}:Snd P (.neg x):=by
 intro E n C st a o d K next Q hinv hok hd h hn _
 cases hop:o.op <;> rw [hop] at hok <;> simp only [okOp,Bool.false_eq_true,Bool.and_eq_true,beq_iff_eq] at hok
 rename_i u t y
 obtain ⟨rfl,h1⟩:=hok
 have hx:=hinv.ev h1
 simp only [eff] at h
 split at h
 ·rename_i k m e
  rw [e] at hx
  exact wp_value (u:=.int k (k.wrap (0 - m))) (w':=C.w) (by simp [execOp,hop,R_int hx,Op.unary,Op.intArith]) (hn C _ _ (hinv.put hd (.int _ _)) h)
 ·exact h.elim
theorem snd_bin {op:BinOp} {x y:X}:Snd P (.bin op x y):=by
 intro E n C st a o d K next Q hinv hok hd h hn _
 cases hop:o.op <;> rw [hop] at hok <;> simp only [okOp,Bool.false_eq_true,Bool.and_eq_true,beq_iff_eq] at hok
 rename_i op' t x' y' t'
 obtain ⟨⟨⟨rfl,hp⟩,h1⟩,h2⟩:=hok
 have hx:=hinv.ev h1
 have hy:=hinv.ev h2
 simp only [eff] at h
 split at h
 ·rename_i k p k' q e1 e2
  obtain ⟨rfl,h⟩:=h
  rw [e1] at hx; rw [e2] at hy
  have hx:=R_int hx
  have hy:=R_int hy
  have fin:∀ (v:V) (u:Value),R C v u->K (st.put d v)->(execOp a.eval o).run P C.w=.ok (.value u) C.w->o.wp P a C.w next Q :=
   fun v u hv hK hrun=>wp_value hrun (hn C _ _ (hinv.put hd hv) hK)
  cases op <;> simp only [plainOp,Bool.false_eq_true] at hp <;> simp only [binI] at h
  ·exact fin _ _ (.int _ _) h (by simp [execOp,hop,hx,hy,eqGuard,binOp,Op.intArith])
  ·exact fin _ _ (.int _ _) h (by simp [execOp,hop,hx,hy,eqGuard,binOp,Op.intArith])
  ·exact fin _ _ (.int _ _) h (by simp [execOp,hop,hx,hy,eqGuard,binOp,Op.intArith])
  ·exact fin _ _ (.int _ _) h.2 (by simp [execOp,hop,hx,hy,eqGuard,binOp,Op.intDiv,h.1])
  ·exact fin _ _ (.int _ _) h.2 (by simp [execOp,hop,hx,hy,eqGuard,binOp,Op.intDiv,h.1])
  ·exact fin _ _ (.bool _) h (by simp [execOp,hop,hx,hy,eqGuard,binOp,Op.intCmp])
  ·exact fin _ _ (.bool _) h (by simp [execOp,hop,hx,hy,eqGuard,binOp,Op.intCmp])
  ·exact fin _ _ (.bool _) h (by simp [execOp,hop,hx,hy,eqGuard,binOp,Op.intCmp])
  ·exact fin _ _ (.bool _) h (by simp [execOp,hop,hx,hy,eqGuard,binOp,Op.intCmp])
  ·exact fin _ _ (.bool _) h (by simp [execOp,hop,hx,hy,eqGuard,binOp,Op.intCmp])
  ·exact fin _ _ (.bool _) h (by simp [execOp,hop,hx,hy,eqGuard,binOp,Op.intCmp])
 ·exact h.elim
theorem snd_max {x y:X}:Snd P (.max x y):=by
 intro E n C st a o d K next Q hinv hok hd h hn _
 cases hop:o.op <;> rw [hop] at hok <;> simp only [okOp,Bool.false_eq_true] at hok
 rename_i c
 split at hok
 ·rename_i x' y' hc hargs
  simp only [Bool.and_eq_true] at hok
  have hx:=hinv.ev hok.1
  have hy:=hinv.ev hok.2
  simp only [eff] at h
  split at h
  ·rename_i k p k' q e1 e2
   obtain ⟨rfl,h⟩:=h
   rw [e1] at hx; rw [e2] at hy
   have ha:c.args=#[x',y']:=by rw [<- hargs]
   refine wp_value (u:=.int k (if q > p then q else p)) (w':=C.w) ?_ (hn C _ _ (hinv.put hd (.int _ _)) h)
   simp [execOp,hop,resolve,hc,ha,R_int hx,R_int hy,invoke,builtin,Builtin.max_,Builtin.max2]
  ·exact h.elim
 ·cases hok
theorem snd_min {x y:X}:Snd P (.min x y):=by
 intro E n C st a o d K next Q hinv hok hd h hn _
 cases hop:o.op <;> rw [hop] at hok <;> simp only [okOp,Bool.false_eq_true] at hok
 rename_i c
 split at hok
 ·rename_i x' y' hc hargs
  simp only [Bool.and_eq_true] at hok
  have hx:=hinv.ev hok.1
  have hy:=hinv.ev hok.2
  simp only [eff] at h
  split at h
  ·rename_i k p k' q e1 e2
   obtain ⟨rfl,h⟩:=h
   rw [e1] at hx; rw [e2] at hy
   have ha:c.args=#[x',y']:=by rw [<- hargs]
   refine wp_value (u:=.int k (if q < p then q else p)) (w':=C.w) ?_ (hn C _ _ (hinv.put hd (.int _ _)) h)
   simp [execOp,hop,resolve,hc,ha,R_int hx,R_int hy,invoke,builtin,Builtin.min_,Builtin.min2]
  ·exact h.elim
 ·cases hok
theorem snd_ext {k:Nat} {x:X}:Snd P (.ext k x):=by
 intro E n C st a o d K next Q hinv hok hd h hn _
 cases hop:o.op <;> rw [hop] at hok <;> simp only [okOp,Bool.false_eq_true,Bool.and_eq_true,beq_iff_eq] at hok
 rename_i y j
 obtain ⟨rfl,h1⟩:=hok
 have hx:=hinv.ev h1
 simp only [eff] at h
 split at h
 ·rename_i vs e
  obtain ⟨hk,h⟩:=h
  rw [e] at hx
  cases hu:a.eval y with
  |tuple us =>
   rw [hu] at hx
   cases hx with
   |tup _ us hl hr =>
    have hlt:k < us.length:=hl ▸ hk
    refine wp_value (u:=us.getD k undef) (w':=C.w) ?_ (hn C _ _ (hinv.put hd ?_) h)
    ·simp [execOp,hop,hu,Instr.extract,hlt]
    ·have:=hr k vs[k] (List.getElem?_eq_getElem hk)
     simpa [hk] using this
  |_=>rw [hu] at hx; cases hx
 ·exact h.elim
theorem evs_R (hinv:Inv E n C st a):∀ {l:List X} {m:List Operand},okXs l m=true->(l.map (·.ev st)).length=(m.map a.eval).length/\∀ (j:Nat) (c:V),(l.map (·.ev st))[j]?=some c->R C c ((m.map a.eval).getD j undef)
 |[],[],_=>⟨rfl,fun j c hj=>by simp at hj⟩
 |[],_::_,h=>by simp [okXs] at h
 |_::_,[],h=>by simp [okXs] at h
 |x::l,y::m,h=>by
  simp only [okXs,Bool.and_eq_true] at h
  obtain ⟨i1,i2⟩:=evs_R hinv h.2
  refine ⟨by simpa using i1,fun j c hj=>?_⟩
  cases j with
  |zero=>simp at hj; subst hj; simpa using hinv.ev h.1
  |succ j=>simpa using i2 j c (by simpa using hj)
theorem okOp_mkf {f:FuncId} {first caps:List X} {op:Op} (h:okOp P (.mkf f first caps) op=true) :
  ∃ fi ca,op=.makeFunc (.func f) fi ca/\okXs first fi.toList=true/\okXs caps ca.toList=true:=by
 cases op with
 |makeFunc fn fi ca =>
  cases fn <;> simp only [okOp,Bool.false_eq_true,Bool.and_eq_true,beq_iff_eq] at h
  obtain ⟨⟨rfl,h1⟩,h2⟩:=h
  exact ⟨_,_,rfl,h1,h2⟩
 |_=>simp [okOp] at h
theorem snd_mkf {f:FuncId} {first caps:List X}:Snd P (.mkf f first caps):=by
 intro E n C st a o d K next Q hinv hok hd h hn _
 obtain ⟨fi,ca,hop,h1,h2⟩:=okOp_mkf hok
 obtain ⟨l1,r1⟩:=evs_R hinv h1
 obtain ⟨l2,r2⟩:=evs_R hinv h2
 simp only [eff] at h
 refine wp_value (u:=.func (.func f) (fi.toList.map a.eval).toArray (ca.toList.map a.eval).toArray) (w':=C.w) ?_ (hn C _ _ (hinv.put hd (.fn _ _ _ _ _ l1 l2 r1 r2)) h)
 simp [execOp,hop,Instr.makeFunc]
 constructor <;> (apply Array.ext'; simp)
theorem snd_nilchk {x:X}:Snd P (.nilchk x):=by
 intro E n C st a o d K next Q hinv hok hd h hn _
 cases hop:o.op <;> rw [hop] at hok <;> simp only [okOp,Bool.false_eq_true] at hok
 rename_i y
 have hx:=hinv.ev hok
 have fin:∀ v,x.ev st=v->(∃ p,a.eval y=.pointer (some p))\/(∃ f u w,a.eval y=.func (.func f) u w)->K (st.put d v)->o.wp P a C.w next Q:=by
  rintro v rfl hv hK
  refine wp_value (u:=a.eval y) (w':=C.w) ?_ (hn C _ _ (hinv.put hd hx) hK)
  rcases hv with ⟨p,hp⟩|⟨f,u,w,hp⟩ <;> simp [execOp,hop,hp]
 simp only [eff] at h
 split at h
 ·rename_i r o' e
  refine fin _ e ?_ h
  rw [e] at hx
  generalize a.eval y=u at hx
  cases hx; exact .inl ⟨_,rfl⟩
 ·rename_i r i o' e
  refine fin _ e ?_ h
  rw [e] at hx
  generalize a.eval y=u at hx
  cases hx; exact .inl ⟨_,rfl⟩
 ·rename_i r o' e
  refine fin _ e ?_ h
  rw [e] at hx
  generalize a.eval y=u at hx
  cases hx; exact .inl ⟨_,rfl⟩
 ·rename_i f p q e
  refine fin _ e ?_ h
  rw [e] at hx
  generalize a.eval y=u at hx
  cases hx; exact .inr ⟨_,_,_,rfl⟩
 ·exact h.elim
end Go.Ab

namespace Go.Ab
open Go
variable {E:Ent} {n:Sz} {C:Ctx} {st:St} {a:Act} {P:Program}
theorem addr_add (b o k:Nat):(⟨b,o,none⟩ : Addr).add k=⟨b,o+k,none⟩:=Addr.add_mid b o k
theorem okOp_faddr {off:Nat} {x:X} {op:Op} (h:okOp P (.faddr off x) op=true) :
  ∃ t y f fs fd i,op=.fieldAddr t y f/\P.underlying t=some (.struct fs)/\fs[f]?=some fd/\fd.offset=off/\P.info? fd.type=some i/\i.size≠0/\okX x y=true:=by
 cases op with
 |fieldAddr t y f =>
  simp only [okOp,Bool.and_eq_true] at h
  obtain ⟨h1,h2⟩:=h
  split at h1
  ·rename_i fs hu
   split at h1
   ·rename_i fd hf
    simp only [Bool.and_eq_true,beq_iff_eq] at h1
    cases hi:P.info? fd.type with
    |none=>simp [hi] at h1
    |some i=>simp [hi] at h1; exact ⟨t,y,f,fs,fd,i,rfl,hu,hf,h1.1,hi,h1.2,h2⟩
   ·cases h1
  ·cases h1
 |_=>simp [okOp] at h
theorem run_fieldAt {t f off b o:Nat} {fs:Array Field} {fd:Field} {i:TypeInfo} (hu:P.underlying t=some (.struct fs)) (hf:fs[f]?=some fd) (ho:fd.offset=off) (hi:P.info? fd.type=some i) (h0:i.size≠0) (w:World) :
  (Instr.fieldAt t (.pointer (some ⟨b,o,none⟩)) f).run P w=.ok (.pointer (some ⟨b,o+off,none⟩)) w:=by
 simp [Instr.fieldAt,run_underlying hu,hf,Instr.sureAddr,fieldPlace,sizeOf,typeInfo,hi,h0,ho,addr_add]
theorem snd_faddr {off:Nat} {x:X}:Snd P (.faddr off x):=by
 intro E n C st a o d K next Q hinv hok hd h hn _
 obtain ⟨t,y,f,fs,fd,i,hop,hu,hf,ho,hi,h0,hx⟩:=okOp_faddr hok
 have hR:=hinv.ev hx
 have fin:∀ (b p:Nat) (v:V),a.eval y=.pointer (some ⟨b,p,none⟩)->R C v (.pointer (some ⟨b,p+off,none⟩))->K (st.put d v)->o.wp P a C.w next Q:=by
  intro b p v hp hv hK
  refine wp_value (w':=C.w) ?_ (hn C _ _ (hinv.put hd hv) hK)
  simp [execOp,hop,hp,run_fieldAt hu hf ho hi h0]
 simp only [eff] at h
 split at h
 ·rename_i r p e
  rw [e] at hR
  generalize hev:a.eval y=u at hR
  cases hR with
  |ptr _ _ cs L h1 h2=>exact fin _ _ _ hev (by rw [Nat.add_assoc]; exact .ptr r (p+off) cs L h1 h2) h
 ·rename_i r i' p e
  rw [e] at hR
  generalize hev:a.eval y=u at hR
  cases hR with
  |rptr _ _ _ s rs L h1 h2 h3=>exact fin _ _ _ hev (by rw [Nat.add_assoc]; exact .rptr r i' (p+off) s rs L h1 h2 h3) h
 ·rename_i cs p e
  rw [e] at hR
  generalize hev:a.eval y=u at hR
  cases hR with
  |cp _ _ b base g h1 h2 h3=>exact fin _ _ _ hev (by rw [Nat.add_assoc]; exact .cp cs (p+off) b base g h1 h2 h3) h
 ·exact h.elim
theorem okOp_iaddr {s:Nat} {len:Option Nat} {x i:X} {op:Op} (h:okOp P (.iaddr s len x i) op=true) :
  ∃ t y j e,op=.indexAddr t y j/\((len=none/\P.underlying t=some (.slice e))\/(∃ l,len=some l/\P.underlying t=some (.array l e)))/\szOk P e s=true/\okX x y=true/\okX i j=true:=by
 cases op with
 |indexAddr t y j =>
  simp only [okOp,Bool.and_eq_true] at h
  obtain ⟨⟨h1,h2⟩,h3⟩:=h
  split at h1
  ·rename_i e hu; exact ⟨t,y,j,e,rfl,.inl ⟨rfl,hu⟩,h1,h2,h3⟩
  ·rename_i l e l' hu
   simp only [Bool.and_eq_true,beq_iff_eq] at h1
   obtain ⟨rfl,h1⟩:=h1
   exact ⟨t,y,j,e,rfl,.inr ⟨l,rfl,hu⟩,h1,h2,h3⟩
  ·cases h1
 |_=>simp [okOp] at h
theorem run_indexAt_slice {t e s b o len cap:Nat} {k:IntKind} {m:Int} (hu:P.underlying t=some (.slice e)) (hs:szOk P e s=true) (h0:0<=m) (h1:m.toNat < len) (w:World) :
  (Instr.indexAt t (.slice (some ⟨b,o,none⟩) len cap) (.int k m)).run P w=.ok (.pointer (some ⟨b,o+m.toNat * s,none⟩)) w:=by
 obtain ⟨i,hi,hsz⟩:=szOk_spec hs
 have h2:m < (len:Int):=by omega
 simp [Instr.indexAt,asIntOf,run_underlying hu,h0,h2,sizeOf,typeInfo,hi,hsz,addr_add]
theorem run_indexAt_array {t e s b o l:Nat} {k:IntKind} {m:Int} (hu:P.underlying t=some (.array l e)) (hs:szOk P e s=true) (h0:0<=m) (h1:m.toNat < l) (w:World) :
  (Instr.indexAt t (.pointer (some ⟨b,o,none⟩)) (.int k m)).run P w=.ok (.pointer (some ⟨b,o+m.toNat * s,none⟩)) w:=by
 obtain ⟨i,hi,hsz⟩:=szOk_spec hs
 have h2:m < (l:Int):=by omega
 simp [Instr.indexAt,asIntOf,run_underlying hu,h0,h2,sizeOf,typeInfo,hi,hsz,addr_add,Instr.sureAddr]
theorem at2_some {rows:List (List V)} {i j:Nat} {c:V} (hi:i < rows.length) (h:(rows.getD i [])[j]?=some c):at2 rows i j=some c:=by
 unfold at2; rw [List.getElem?_eq_getElem hi]; simpa [hi] using h
theorem snd_iaddr {s:Nat} {len:Option Nat} {x i:X}:Snd P (.iaddr s len x i):=by
 intro E n C st a o d K next Q hinv hok hd h hn _
 obtain ⟨t,y,j,e,hop,hu,hs,hx,hi⟩:=okOp_iaddr hok
 have hR:=hinv.ev hx
 have hI:=hinv.ev hi
 simp only [eff] at h
 split at h
 ·rename_i k m ei
  rw [ei] at hI
  have hI:=R_int hI
  rcases hu with ⟨rfl,hu⟩|⟨l,rfl,hu⟩
  ·have fin:∀ (b p len cap:Nat) (v:V),a.eval y=.slice (some ⟨b,p,none⟩) len cap->0<=m->m.toNat < len->R C v (.pointer (some ⟨b,p+m.toNat * s,none⟩))->K (st.put d v)->o.wp P a C.w next Q:=by
    intro b p len cap v hp h0 h1 hv hK
    refine wp_value (w':=C.w) ?_ (hn C _ _ (hinv.put hd hv) hK)
    simp [execOp,hop,hp,hI,run_indexAt_slice hu hs h0 h1]
   dsimp only at h
   split at h
   ·rename_i f s' rows ex
    rw [ex] at hR
    obtain ⟨rfl,h0,h1,h⟩:=h
    generalize hev:a.eval y=u at hR
    cases hR with
    |slNil _ _=>simp at h1
    |slZ _ _ _=>simp at h1
    |sl _ _ _ b base cap g hc hm hu' hfr hcell hcl hr =>
     refine fin _ _ _ _ _ hev h0 h1 ?_ h
     refine .cp _ 0 b (base+m.toNat * s') (fun j=>g m.toNat j) (fun j c hj=>?_) (fun j c hj=>hcl _ _ _ (at2_some h1 hj)) (fun j c hj=>hr _ _ _ (at2_some h1 hj))
     exact hcell _ _ _ (at2_some h1 hj)
   ·rename_i r j' m' ex
    rw [ex] at hR
    split at h
    ·rename_i s' rs hh
     obtain ⟨rfl,h0,h1,h⟩:=h
     rw [<- hinv.heap] at hh
     generalize hev:a.eval y=u at hR
     cases hR with
     |sref _ _ _ s2 rs2 L g1 g2 g3 =>
      rw [hh] at g1; cases g1
      refine fin _ _ _ _ _ hev h0 h1 ?_ h
      rw [<- Nat.add_mul]
      exact .rptr r (j'+m.toNat) 0 s' rs L hh g2 (by omega)
     |srefNil _ _ g1 g2=>simp at h1
     |srefZ _ _ _ _ _ g1 g2=>simp at h1
    ·exact h.elim
   ·exact h.elim
  ·dsimp only at h
   obtain ⟨h0,h1,h⟩:=h
   have fin:∀ (b p:Nat) (v:V),a.eval y=.pointer (some ⟨b,p,none⟩)->R C v (.pointer (some ⟨b,p+m.toNat * s,none⟩))->K (st.put d v)->o.wp P a C.w next Q:=by
    intro b p v hp hv hK
    refine wp_value (w':=C.w) ?_ (hn C _ _ (hinv.put hd hv) hK)
    simp [execOp,hop,hp,hI,run_indexAt_array hu hs h0 h1]
   split at h
   ·rename_i r p ex
    rw [ex] at hR
    generalize hev:a.eval y=u at hR
    cases hR with
    |ptr _ _ cs L h1 h2=>exact fin _ _ _ hev (by rw [Nat.add_assoc]; exact .ptr r _ cs L h1 h2) h
   ·rename_i r i' p ex
    rw [ex] at hR
    generalize hev:a.eval y=u at hR
    cases hR with
    |rptr _ _ _ s rs L h1 h2 h3=>exact fin _ _ _ hev (by rw [Nat.add_assoc]; exact .rptr r i' _ s rs L h1 h2 h3) h
   ·rename_i cs p ex
    rw [ex] at hR
    generalize hev:a.eval y=u at hR
    cases hR with
    |cp _ _ b base g h1 h2 h3=>exact fin _ _ _ hev (by rw [Nat.add_assoc]; exact .cp cs _ b base g h1 h2 h3) h
   ·exact h.elim
 ·exact h.elim
theorem run_part {t k off:Nat} {agg:Bool} {us:List Value} (hs:szOk P t k=true) (hr:rowOk P t agg=true) (ha:(agg||k == 1)=true) (hk:off+k<=us.length) (w:World) :
  (part t us.toArray off).run P w=.ok (if agg then .agg ((us.drop off).take k).toArray else us.getD off undef) w:=by
 obtain ⟨i,hi,hsz⟩:=szOk_spec hs
 obtain ⟨d,hu,hd⟩:=rowOk_spec hr
 cases agg with
 |true=>simp [part,run_isAgg hu,hd,sizeOf,typeInfo,hi,hsz,List.take_drop]; try omega
 |false =>
  simp only [Bool.false_or,beq_iff_eq] at ha
  subst ha
  have:off < us.length:=by omega
  simp [part,run_isAgg hu,hd,this]
theorem part_R {agg:Bool} {k off:Nat} {cs:List V} {us:List Value} (hl:cs.length=us.length) (h1:∀ u∈us,u.oneCell'=true)
  (hr:∀ (j:Nat) (c:V),cs[j]?=some c->R C c (us.getD j undef)) (ha:(agg||k == 1)=true) (hk:off+k<=cs.length) :
  R C (pickc agg k off cs) (if agg then .agg ((us.drop off).take k).toArray else us.getD off undef):=by
 unfold pickc
 cases agg with
 |true =>
  refine .agg _ _ (by simp [hl]) (fun u hu=>h1 u (List.drop_subset _ _ (List.take_subset _ _ hu))) fun j c hj=>?_
  obtain ⟨h2,h3⟩:=getElem?_seg hj
  have:=hr _ c h2
  have e:((us.drop off).take k).getD j undef=us.getD (off+j) undef:=by simp [h3,List.getD_eq_getElem?_getD,List.getElem?_drop]
  simp only [e]
  exact this
 |false =>
  simp only [Bool.false_or,beq_iff_eq] at ha
  subst ha
  have:=hr off cs[off] (List.getElem?_eq_getElem (by omega))
  have e:cs.getD off V.undef=cs[off]:=by simp [show off < cs.length by omega]
  simp only [e]
  exact this
theorem okOp_field {agg:Bool} {off k:Nat} {x:X} {op:Op} (h:okOp P (.field agg off k x) op=true) :
  ∃ t y f fs fd,op=.field t y f/\P.underlying t=some (.struct fs)/\fs[f]?=some fd/\fd.offset=off/\szOk P fd.type k=true/\rowOk P fd.type agg=true/\(agg||k == 1)=true/\okX x y=true:=by
 cases op with
 |field t y f =>
  simp only [okOp,Bool.and_eq_true] at h
  obtain ⟨h1,h2⟩:=h
  split at h1
  ·rename_i fs hu
   split at h1
   ·rename_i fd hf
    simp only [Bool.and_eq_true,beq_iff_eq] at h1
    obtain ⟨⟨⟨h3,h4⟩,h5⟩,h6⟩:=h1
    exact ⟨t,y,f,fs,fd,rfl,hu,hf,h3,h4,h5,h6,h2⟩
   ·cases h1
  ·cases h1
 |_=>simp [okOp] at h
theorem snd_field {agg:Bool} {off k:Nat} {x:X}:Snd P (.field agg off k x):=by
 intro E n C st a o d K next Q hinv hok hd h hn _
 obtain ⟨t,y,f,fs,fd,hop,hu,hf,ho,hs,hr,ha,hx⟩:=okOp_field hok
 have hR:=hinv.ev hx
 simp only [eff] at h
 split at h
 ·rename_i cs e
  rw [e] at hR
  generalize hev:a.eval y=u at hR
  cases hR with
  |agg _ us hl h1 hr' =>
   refine wp_value (w':=C.w) ?_ (hn C _ _ (hinv.put hd (part_R hl h1 hr' ha h.1)) h.2)
   simp [execOp,hop,hev,Instr.field,run_underlying hu,hf,asAgg,ho,run_part (P:=P) hs hr ha (hl ▸ h.1)]
 ·exact h.elim
theorem okOp_index {agg:Bool} {s len:Nat} {x i:X} {op:Op} (h:okOp P (.index agg s len x i) op=true) :
  ∃ t y j e,op=.index t y j/\P.underlying t=some (.array len e)/\szOk P e s=true/\rowOk P e agg=true/\(agg||s == 1)=true/\okX x y=true/\okX i j=true:=by
 cases op with
 |index t y j =>
  simp only [okOp,Bool.and_eq_true] at h
  obtain ⟨⟨h1,h2⟩,h3⟩:=h
  split at h1
  ·rename_i l e hu
   simp only [Bool.and_eq_true,beq_iff_eq] at h1
   obtain ⟨⟨⟨rfl,h4⟩,h5⟩,h6⟩:=h1
   exact ⟨t,y,j,e,rfl,hu,h4,h5,h6,h2,h3⟩
  ·cases h1
 |_=>simp [okOp] at h
theorem snd_index {agg:Bool} {s len:Nat} {x i:X}:Snd P (.index agg s len x i):=by
 intro E n C st a o d K next Q hinv hok hd h hn _
 obtain ⟨t,y,j,e,hop,hu,hs,hr,ha,hx,hi⟩:=okOp_index hok
 have hR:=hinv.ev hx
 have hI:=hinv.ev hi
 simp only [eff] at h
 split at h
 ·rename_i cs k m e1 e2
  rw [e1] at hR; rw [e2] at hI
  have hI:=R_int hI
  obtain ⟨h0,h1,h2,h⟩:=h
  generalize hev:a.eval y=u at hR
  cases hR with
  |agg _ us hl h1' hr' =>
   have hk:m.toNat * s+s<=cs.length:=by
    rw [h2,<- Nat.succ_mul]; exact Nat.mul_le_mul_right _ h1
   refine wp_value (w':=C.w) ?_ (hn C _ _ (hinv.put hd (part_R hl h1' hr' ha hk)) h)
   obtain ⟨ii,hii,hsz⟩:=szOk_spec hs
   have hm:m < (len:Int):=by omega
   simp [execOp,hop,hev,hI,Instr.index,asIntOf,run_underlying hu,h0,hm,sizeOf,typeInfo,hii,hsz,run_part (P:=P) hs hr ha (hl ▸ hk)]
 ·exact h.elim
theorem okOp_sidx {x i:X} {op:Op} (h:okOp P (.sidx x i) op=true):∃ t y j,op=.index t y j/\P.underlying t=some .string/\okX x y=true/\okX i j=true:=by
 cases op with
 |index t y j =>
  simp only [okOp,Bool.and_eq_true] at h
  obtain ⟨⟨h1,h2⟩,h3⟩:=h
  split at h1
  ·rename_i hu; exact ⟨t,y,j,rfl,hu,h2,h3⟩
  ·cases h1
 |_=>simp [okOp] at h
theorem snd_sidx {x i:X}:Snd P (.sidx x i):=by
 intro E n C st a o d K next Q hinv hok hd h hn _
 obtain ⟨t,y,j,hop,hu,hx,hi⟩:=okOp_sidx hok
 have hR:=hinv.ev hx
 have hI:=hinv.ev hi
 simp only [eff] at h
 split at h
 ·rename_i b k m e1 e2
  rw [e1] at hR; rw [e2] at hI
  have hI:=R_int hI
  have hR:=R_str hR
  obtain ⟨h0,h1,h⟩:=h
  refine wp_value (u:=.int .u8 (b.data.getD m.toNat 0).toNat) (w':=C.w) ?_ (hn C _ _ (hinv.put hd (.int _ _)) h)
  have h1':m.toNat < b.data.size:=h1
  simp [execOp,hop,hR,hI,Instr.index,asIntOf,run_underlying hu,h0,h1]
  rfl
 ·exact h.elim
theorem okOp_len {x:X} {op:Op} (h:okOp P (.len x) op=true):∃ c y t e,op=.call c/\c.callee=.builtin .len/\c.args=#[y]/\c.argTypes=#[t]/\P.underlying t=some (.slice e)/\okX x y=true:=by
 cases op with
 |call c =>
  simp only [okOp] at h
  split at h
  ·rename_i y t hc ha ht
   simp only [Bool.and_eq_true] at h
   obtain ⟨h1,h2⟩:=h
   split at h1
   ·rename_i e hu
    exact ⟨c,y,t,e,rfl,hc,by rw [<- ha],by rw [<- ht],hu,h2⟩
   ·cases h1
  ·cases h
 |_=>simp [okOp] at h
theorem okOp_slen {x:X} {op:Op} (h:okOp P (.slen x) op=true):∃ c y t,op=.call c/\c.callee=.builtin .len/\c.args=#[y]/\c.argTypes=#[t]/\P.underlying t=some .string/\okX x y=true:=by
 cases op with
 |call c =>
  simp only [okOp] at h
  split at h
  ·rename_i y t hc ha ht
   simp only [Bool.and_eq_true] at h
   obtain ⟨h1,h2⟩:=h
   split at h1
   ·rename_i hu
    exact ⟨c,y,t,rfl,hc,by rw [<- ha],by rw [<- ht],hu,h2⟩
   ·cases h1
  ·cases h
 |_=>simp [okOp] at h
theorem snd_len {x:X}:Snd P (.len x):=by
 intro E n C st a o d K next Q hinv hok hd h hn _
 obtain ⟨c,y,t,e,hop,hc,ha,ht,hu,hx⟩:=okOp_len hok
 have hR:=hinv.ev hx
 have fin:∀ (ao:Option Addr) (len cap:Nat),a.eval y=.slice ao len cap->K (st.put d (.int .i64 len))->o.wp P a C.w next Q:=by
  intro ao len cap hp hK
  refine wp_value (u:=.int .i64 len) (w':=C.w) ?_ (hn C _ _ (hinv.put hd (.int _ _)) hK)
  simp [execOp,hop,resolve,hc,ha,ht,hp,invoke,builtin,Builtin.len_,run_underlying hu,goInt]
 simp only [eff] at h
 split at h
 ·rename_i f s rows ex
  rw [ex] at hR
  generalize hev:a.eval y=u at hR
  cases hR with
  |slNil=>exact fin _ _ _ hev h
  |slZ=>exact fin _ _ _ hev h
  |sl=>exact fin _ _ _ hev h
 ·rename_i r i m ex
  rw [ex] at hR
  generalize hev:a.eval y=u at hR
  cases hR with
  |sref=>exact fin _ _ _ hev h
  |srefNil=>exact fin _ _ _ hev h
  |srefZ=>exact fin _ _ _ hev h
 ·rename_i s ex
  rw [ex] at hR
  generalize hev:a.eval y=u at hR
  cases hR with
  |nils=>exact fin _ _ _ hev h
  |nilsSome=>exact fin _ _ _ hev h
 ·exact h.elim
theorem snd_slen {x:X}:Snd P (.slen x):=by
 intro E n C st a o d K next Q hinv hok hd h hn _
 obtain ⟨c,y,t,hop,hc,ha,ht,hu,hx⟩:=okOp_slen hok
 have hR:=hinv.ev hx
 simp only [eff] at h
 split at h
 ·rename_i b ex
  rw [ex] at hR
  have hR:=R_str hR
  refine wp_value (u:=.int .i64 b.size) (w':=C.w) ?_ (hn C _ _ (hinv.put hd (.int _ _)) h)
  simp [execOp,hop,resolve,hc,ha,ht,hR,invoke,builtin,Builtin.len_,run_underlying hu,goInt]
 ·exact h.elim
theorem okO_ev (hinv:Inv E n C st a) {x:Option X} {y:Option Operand} (h:okO' x y=true) {z:V} {k:IntKind} {m:Int} (hz:(match x with|none=>z|some l=>l.ev st)=.int k m) :
  (x=none/\y=none/\z=.int k m)\/∃ p,y=some p/\x.isSome=true/\a.eval p=.int k m:=by
 cases x with
 |none=>cases y with
  |none=>exact .inl ⟨rfl,rfl,hz⟩
  |some y=>simp [okO'] at h
 |some x=>cases y with
  |none=>simp [okO'] at h
  |some y =>
   have:=hinv.ev (x:=x) (y:=y) (by simpa [okO'] using h)
   simp only at hz
   rw [hz] at this
   exact .inr ⟨y,rfl,rfl,R_int this⟩
theorem run_sliceBounds {isSlice:Bool} {len cap:Nat} (hle:len<=cap) {lo hi:Option Value} {l h:Int} (hl:(lo=none/\l=0)\/∃ k,lo=some (.int k l)) (hh:(hi=none/\h=len)\/∃ k,hi=some (.int k h))
  (h0:0<=l) (h1:l<=h) (h2:h<=len) (w:World) :
  (Instr.sliceBounds isSlice len cap lo hi none).run P w=.ok (l.toNat,h.toNat,cap) w:=by
 have hc:h<=(cap:Int):=by omega
 have h3:(0:Int)<=h:=by omega
 have e:h.toNat=h:=by omega
 have hlh:l<=(h.toNat:Int):=by omega
 rcases hl with ⟨rfl,rfl⟩|⟨k,rfl⟩ <;> rcases hh with ⟨rfl,rfl⟩|⟨k',rfl⟩ <;>
  simp [Instr.sliceBounds,Instr.sliceBound,asIntOf,h0,h1,h3,hc] <;> omega
theorem okOp_slice {s:Nat} {x:X} {lo hi:Option X} {op:Op} (h:okOp P (.slice s x lo hi) op=true) :
  ∃ t y l m e,op=.slice t y l m none/\P.underlying t=some (.slice e)/\szOk P e s=true/\okX x y=true/\okO' lo l=true/\okO' hi m=true:=by
 cases op with
 |slice t y l m mx =>
  simp only [okOp,Bool.and_eq_true,sliceElem] at h
  obtain ⟨⟨⟨⟨h1,h2⟩,h3⟩,h4⟩,h5⟩:=h
  split at h1
  ·rename_i e hu
   cases mx with
   |none=>exact ⟨t,y,l,m,e,rfl,hu,h1,h2,h3,h4⟩
   |some _=>simp at h5
  ·cases h1
 |_=>simp [okOp] at h
theorem okOp_sslice {x:X} {lo hi:Option X} {op:Op} (h:okOp P (.sslice x lo hi) op=true) :
  ∃ t y l m,op=.slice t y l m none/\P.underlying t=some .string/\okX x y=true/\okO' lo l=true/\okO' hi m=true:=by
 cases op with
 |slice t y l m mx =>
  simp only [okOp,Bool.and_eq_true] at h
  obtain ⟨⟨⟨⟨h1,h2⟩,h3⟩,h4⟩,h5⟩:=h
  split at h1
  ·rename_i hu
   cases mx with
   |none=>exact ⟨t,y,l,m,rfl,hu,h2,h3,h4⟩
   |some _=>simp at h5
  ·cases h1
 |_=>simp [okOp] at h
theorem bounds_of (hinv:Inv E n C st a) {lo:Option X} {y:Option Operand} (h:okO' lo y=true) {k:IntKind} {m dflt:Int} (hz:(match lo with|none=>V.int .i64 dflt|some l=>l.ev st)=.int k m) :
  (y.map a.eval=none/\m=dflt)\/∃ k,y.map a.eval=some (.int k m):=by
 rcases okO_ev hinv h hz with ⟨_,rfl,h3⟩|⟨p,rfl,_,h3⟩
 ·cases h3; exact .inl ⟨rfl,rfl⟩
 ·exact .inr ⟨k,by simp [h3]⟩
theorem at2_cut {rows:List (List V)} {l h i j:Nat} {c:V} (hc:at2 ((rows.take h).drop l) i j=some c):at2 rows (l+i) j=some c:=by
 unfold at2 at hc ⊢
 rw [List.getElem?_drop,List.getElem?_take] at hc
 split at hc
 ·exact hc
 ·cases hc
theorem snd_slice {s:Nat} {x:X} {lo hi:Option X}:Snd P (.slice s x lo hi):=by
 intro E n C st a o d K next Q hinv hok hd h hn _
 obtain ⟨t,y,l',m',e,hop,hu,hs,hx,hlo,hhi⟩:=okOp_slice hok
 obtain ⟨ii,hii,hsz⟩:=szOk_spec hs
 have hR:=hinv.ev hx
 have fin:∀ (ao:Option Addr) (len cap:Nat) (l h:Int) (v:V),a.eval y=.slice ao len cap->len<=cap ->
   ((l'.map a.eval=none/\l=0)\/∃ k,l'.map a.eval=some (.int k l))->((m'.map a.eval=none/\h=len)\/∃ k,m'.map a.eval=some (.int k h)) ->
   0<=l->l<=h->h<=len->R C v (.slice (if cap=l.toNat then ao else ao.map (·.add (l.toNat * s))) (h.toNat - l.toNat) (cap - l.toNat))->K (st.put d v)->o.wp P a C.w next Q:=by
  intro ao len cap l h v hp hle hl hh h0 h1 h2 hv hK
  refine wp_value (w':=C.w) ?_ (hn C _ _ (hinv.put hd hv) hK)
  simp [execOp,hop,hp,Instr.sliceAt,run_underlying hu,Instr.slice,run_sliceBounds (P:=P) (isSlice:=true) hle hl hh h0 h1 h2,sizeOf,typeInfo,hii,hsz]
 simp only [eff] at h
 split at h
 ·rename_i f s' rows k l ex el
  rw [ex] at hR
  split at h
  ·rename_i k' m em
   obtain ⟨rfl,h0,h1,h2,h⟩:=h
   have bl:=bounds_of hinv hlo el
   have bh:=bounds_of hinv hhi em
   generalize hev:a.eval y=u at hR
   cases hR with
   |slNil =>
    have:l=0:=by simp at h2; omega
    have:m=0:=by simp at h2; omega
    subst l m
    refine fin none 0 0 0 0 _ hev (Nat.le_refl _) bl bh h0 h1 h2 ?_ h
    simpa using R.slNil f s'
   |slZ _ _ a0 =>
    have:l=0:=by simp at h2; omega
    have:m=0:=by simp at h2; omega
    subst l m
    refine fin (some a0) 0 0 0 0 _ hev (Nat.le_refl _) bl bh h0 h1 h2 ?_ h
    simpa using R.slZ f s' a0
   |sl _ _ _ b base cap g hc hm hu' hfr hcell hcl hr =>
    refine fin _ _ cap l m _ hev hc bl bh h0 h1 h2 ?_ h
    have hlen:((rows.take m.toNat).drop l.toNat).length=m.toNat - l.toNat:=by simp; omega
    have hmem:∀ r∈(rows.take m.toNat).drop l.toNat,r∈rows:=fun r hr=>List.take_subset _ _ (List.drop_subset _ _ hr)
    by_cases hcap:cap=l.toNat
    ·have he:(rows.take m.toNat).drop l.toNat=[]:=List.eq_nil_of_length_eq_zero (by omega)
     rw [he]
     have e2:m.toNat - l.toNat=([]:List (List V)).length:=by simp; omega
     rw [if_pos hcap,e2]
     refine .sl f s' [] b base (cap - l.toNat) g (by simp) (by omega) (by simp) (by simp) (fun i j c hij=>?_) (fun i j c hij=>?_) (fun i j c hij=>?_) <;> simp [at2] at hij
    ·rw [if_neg hcap,<- hlen]
     simp only [Option.map_some,addr_add]
     refine .sl f s' _ b (base+l.toNat * s') (cap - l.toNat) (fun i j=>g (l.toNat+i) j) (by omega) (by omega) (fun r hr=>hu' r (hmem r hr)) (fun h3 h4=>hfr h3 (fun e=>h4 (by simp [e]))) (fun i j c hij=>?_) (fun i j c hij=>hcl _ _ _ (at2_cut hij)) (fun i j c hij=>hr _ _ _ (at2_cut hij))
     have:=hcell _ _ _ (at2_cut hij)
     have e:base+l.toNat * s'+i * s'+j=base+(l.toNat+i) * s'+j:=by rw [Nat.add_mul]; omega
     rw [e]
     exact this
  ·exact h.elim
 ·rename_i r i m0 k l ex el
  rw [ex] at hR
  split at h
  ·rename_i s' rs k' m hh em
   obtain ⟨rfl,h0,h1,h2,h⟩:=h
   have bl:=bounds_of hinv hlo el
   have bh:=bounds_of hinv hhi em
   rw [<- hinv.heap] at hh
   generalize hev:a.eval y=u at hR
   cases hR with
   |sref _ _ _ s2 rs2 L g1 g2 g3 =>
    rw [hh] at g1; cases g1
    have ho:=hinv.objs r
    unfold ObjOk at ho
    rw [hh] at ho
    rcases ho with ⟨_,ho⟩|⟨L',hl',_,q1,q2,_⟩
    ·rw [g2] at ho; cases ho
    rw [g2] at hl'; cases hl'
    refine fin _ _ (L.cap - i) l m _ hev (by omega) bl bh h0 h1 h2 ?_ h
    by_cases hcap:L.cap - i=l.toNat
    ·rw [if_pos hcap]
     have e1:m.toNat - l.toNat=0:=by omega
     have e2:L.cap - i - l.toNat=0:=by omega
     rw [e1,e2]
     exact .srefZ r _ s' rs _ _ hh (by omega)
    ·rw [if_neg hcap]
     simp only [Option.map_some,addr_add]
     rw [<- Nat.add_mul,Nat.sub_sub]
     exact .sref r _ _ s' rs L hh g2 (by omega)
   |srefNil _ _ g1 g2 =>
    have:l=0:=by omega
    have:m=0:=by omega
    subst l m
    refine fin none 0 0 0 0 _ hev (Nat.le_refl _) bl bh h0 h1 h2 ?_ h
    simpa using R.srefNil r _ g1 g2
   |srefZ _ _ s2 rs2 ab ao g1 g2 =>
    have:l=0:=by omega
    have:m=0:=by omega
    subst l m
    refine fin (some ⟨ab,ao,none⟩) 0 0 0 0 _ hev (Nat.le_refl _) bl bh h0 h1 h2 ?_ h
    simpa using R.srefZ r i _ _ ab ao g1 g2
  ·exact h.elim
 ·exact h.elim
theorem snd_sslice {x:X} {lo hi:Option X}:Snd P (.sslice x lo hi):=by
 intro E n C st a o d K next Q hinv hok hd h hn _
 obtain ⟨t,y,l',m',hop,hu,hx,hlo,hhi⟩:=okOp_sslice hok
 have hR:=hinv.ev hx
 simp only [eff] at h
 split at h
 ·rename_i b k l ex el
  rw [ex] at hR
  have hR:=R_str hR
  split at h
  ·rename_i k' m em
   obtain ⟨h0,h1,h2,h⟩:=h
   have bl:=bounds_of hinv hlo el
   have bh:=bounds_of hinv hhi em
   refine wp_value (u:=.string (b.extract l.toNat m.toNat)) (w':=C.w) ?_ (hn C _ _ (hinv.put hd (.str _)) h)
   simp [execOp,hop,hR,Instr.sliceAt,run_underlying hu,Instr.slice,run_sliceBounds (P:=P) (isSlice:=false) (Nat.le_refl b.size) bl bh h0 h1 h2]
  ·exact h.elim
 ·exact h.elim
end Go.Ab

namespace Go.Ab
open Go
variable {E:Ent} {n:Sz} {C:Ctx} {st:St} {a:Act} {P:Program}
abbrev Le (C C':Ctx):Prop:=Compat (fun _=>false) C C'
theorem Le.trans {C C' C'':Ctx} (h:Le C C') (h':Le C' C''):Le C C'' :=
 ⟨
  fun b off hf=>⟨(h'.F b off (h.F b off hf).1).1,(h'.F b off (h.F b off hf).1).2.trans (h.F b off hf).2⟩,fun b hb=>h'.G b (h.G b hb),
  fun r cs hp hr=>by
   obtain ⟨⟨cs',h1⟩,h2⟩:=h.box r cs hp hr
   obtain ⟨h3,h4⟩:=h'.box r cs' hp h1
   exact ⟨h3,h4.trans h2⟩,
  fun r s rs hp hr=>by
   obtain ⟨⟨rs',h1,h1'⟩,h2⟩:=h.rows r s rs hp hr
   obtain ⟨⟨rs2,h3,h3'⟩,h4⟩:=h'.rows r s rs' hp h1
   exact ⟨⟨rs2,h3,h3'.trans h1'⟩,h4.trans h2⟩,
  fun r ks vs hp hr=>by
   obtain ⟨⟨ks',vs',h1⟩,h2⟩:=h.mp r ks vs hp hr
   obtain ⟨⟨ks2,vs2,h3⟩,h4⟩:=h'.mp r ks' vs' hp h1
   exact ⟨⟨ks2,vs2,h3⟩,h4.trans h2⟩⟩
theorem Inv.dead (h:Inv E n C st a) {r:Nat} (hr:(st.heap r).isDead=true):C.heap r=.dead:=by
 rw [h.heap]
 cases hh:st.heap r with
 |dead=>rfl
 |_=>rw [hh] at hr; simp [AO.isDead] at hr
theorem Inv.le_grow (h:Inv E n C st a) {w':World} (hx:Ext C.w w') {F':Nat->Nat->Prop} (hF:∀ b off,C.F b off->F' b off):Le C { C with w:=w',F:=F' } :=
 ⟨fun b off hf=>⟨hF b off hf,hx.cell (a:=⟨b,off,none⟩) (h.fin b off hf)⟩,fun _ h=>h,fun _ cs _ h=>⟨⟨cs,h⟩,rfl⟩,fun _ _ rs _ h=>⟨⟨rs,h,rfl⟩,rfl⟩,fun _ ks vs _ h=>⟨⟨ks,vs,h⟩,rfl⟩⟩
theorem Inv.le_obj (h:Inv E n C st a) {r:Nat} (hr:(st.heap r).isDead=true) (o:AO) (L:Option Loc):Le C { C with heap:=upd C.heap r o,loc:=upd C.loc r L }:=by
 have hd:=h.dead hr
 refine ⟨fun b off hf=>⟨hf,rfl⟩,fun _ h=>h,fun r' cs _ h'=>?_,fun r' s rs _ h'=>?_,fun r' ks vs _ h'=>?_⟩
 ·have hne:r'≠r:=fun e=>by subst e; rw [hd] at h'; cases h'
  exact ⟨⟨cs,by simp [upd,hne,h']⟩,by simp [upd,hne]⟩
 ·have hne:r'≠r:=fun e=>by subst e; rw [hd] at h'; cases h'
  exact ⟨⟨rs,by simp [upd,hne,h'],rfl⟩,by simp [upd,hne]⟩
 ·have hne:r'≠r:=fun e=>by subst e; rw [hd] at h'; cases h'
  exact ⟨⟨ks,vs,by simp [upd,hne,h']⟩,by simp [upd,hne]⟩
theorem Inv.beside (h:Inv E n C st a) {b:Nat} (hb:C.w.heap.size<=b):∀ r' L'',C.loc r'=some L''->(C.heap r').isDead=false->L''.blk≠b :=
 fun r' L'' hl ha e=>by have:=(h.objs r').lt hl ha; omega
theorem Inv.newBox (h:Inv E n C st a) {w':World} (hx:Ext C.w w') {b:Nat} (hb:C.w.heap.size<=b) {cur:Array Value} {e:TypeId} (hcur:w'.heap[b]?=some (.cells cur e (0,0)))
  {r:Nat} (hr:(st.heap r).isDead=true) {cs:List V} (hc:∀ (j:Nat) (c:V),cs[j]?=some c->cur[j]?=some (cur.getD j undef)/\(cur.getD j undef).oneCell'=true/\R C c (cur.getD j undef)) :
  ∃ C',Inv E n C' (st.set r (.box cs)) a/\C'.w=w'/\R C' (.ptr r 0) (.pointer (some ⟨b,0,none⟩))/\Le C C':=by
 have h1:=h.ext hx
 have l1:=h.le_grow hx (F':=C.F) (fun _ _ h=>h)
 have l2:=h1.le_obj hr (.box cs) (some ⟨b,0,0⟩)
 refine ⟨{ C with w:=w',heap:=upd C.heap r (.box cs),loc:=upd C.loc r (some ⟨b,0,0⟩) },h1.obj hr ?_ ?_,rfl,?_,l1.trans l2⟩
 ·unfold ObjOk
  simp only [upd,if_true]
  refine ⟨_,rfl,⟨cur,e,fun j=>cur.getD j undef,hcur,fun j c hj=>?_⟩,fun j _=>⟨fun hf=>?_,.inl ?_⟩,.inl fun off hf=>?_⟩
  ·obtain ⟨a1,a2,a3⟩:=hc j c hj
   exact ⟨by simpa using a1,a2,a3.mono (l1.trans l2)⟩
  ·have:=h.fin _ _ hf; simp only at this; omega
  ·have:=h.frame.size; simp only; omega
  ·have:=h.fin _ _ hf; simp only at this; omega
 ·rintro L' hL' r' L'' _ hl ha
  cases hL'
  exact h.beside hb r' L'' hl ha
 ·have:R { C with w:=w',heap:=upd C.heap r (.box cs),loc:=upd C.loc r (some ⟨b,0,0⟩) } (.ptr r 0) (.pointer (some ⟨b,0+0,none⟩)) :=
   .ptr r 0 cs ⟨b,0,0⟩ (by simp [upd]) (by simp [upd])
  simpa using this
structure NewRow (C:Ctx) (w':World) (b cap s:Nat) (rows:List (List V)):Prop where
 ext:Ext C.w w'
 new:C.w.heap.size<=b
 le:rows.length<=cap
 max:cap<=maxLen
 width:∀ r∈rows,r.length=s
 cells:∃ (cur:Array Value) (e:TypeId) (g:Nat->Nat->Value),w'.heap[b]?=some (.cells cur e (0,0))/\cur.size=cap * s /\
  ∀ i j c,at2 rows i j=some c->cur[i * s+j]?=some (g i j)/\(g i j).oneCell'=true/\c.closed=true/\R C c (g i j)
theorem Inv.newRows (h:Inv E n C st a) {w':World} {b cap s:Nat} {rows:List (List V)} (hw:NewRow C w' b cap s rows) {r:Nat} (hr:(st.heap r).isDead=true) :
  ∃ C',Inv E n C' (st.set r (.rows s rows)) a/\C'.w=w'/\R C' (.sref r 0 rows.length) (.slice (some ⟨b,0,none⟩) rows.length cap)/\Le C C':=by
 have h1:=h.ext hw.ext
 have l1:=h.le_grow hw.ext (F':=C.F) (fun _ _ h=>h)
 have l2:=h1.le_obj hr (.rows s rows) (some ⟨b,0,cap⟩)
 obtain ⟨cur,e,g,hcur,hsz,hcell⟩:=hw.cells
 have hn:=hw.new
 have hfs:=h.frame.size
 refine ⟨{ C with w:=w',heap:=upd C.heap r (.rows s rows),loc:=upd C.loc r (some ⟨b,0,cap⟩) },h1.obj hr ?_ ?_,rfl,?_,l1.trans l2⟩
 ·unfold ObjOk
  simp only [upd,if_true]
  refine .inr ⟨_,rfl,rfl,hw.le,hw.max,hw.width,⟨cur,e,g,hcur,hsz,fun i j c hij=>?_⟩,fun off=>⟨fun hf=>?_,.inl ?_⟩,h.gnew b ?_⟩
  ·obtain ⟨a1,a2,a3,a4⟩:=hcell i j c hij
   exact ⟨a1,a2,a3,a4.mono (l1.trans l2)⟩
  ·have:=h.fin _ _ hf; simp only at this; omega
  ·simp only; omega
  ·omega
 ·rintro L' hL' r' L'' _ hl ha
  cases hL'
  exact h.beside hn r' L'' hl ha
 ·have:R { C with w:=w',heap:=upd C.heap r (.rows s rows),loc:=upd C.loc r (some ⟨b,0,cap⟩) } (.sref r 0 rows.length) (.slice (some ⟨b,0 * s,none⟩) rows.length (cap - 0)) :=
   .sref r 0 rows.length s rows ⟨b,0,cap⟩ (by simp [upd]) (by simp [upd]) (by omega)
  simpa using this
theorem Inv.newVal (h:Inv E n C st a) {w':World} {b cap s:Nat} {rows:List (List V)} (hw:NewRow C w' b cap s rows) :
  ∃ C',Inv E n C' st a/\C'.w=w'/\R C' (.sl true s rows) (.slice (some ⟨b,0,none⟩) rows.length cap)/\Le C C':=by
 obtain ⟨cur,e,g,hcur,hsz,hcell⟩:=hw.cells
 have hn:=hw.new
 have hfs:=h.frame.size
 have hF':∀ b' off,(C.F b' off\/b'=b)->C.F b' off\/(C.w.heap.size<=b'/\b' < w'.heap.size):=by
  rintro b' off (hf|rfl)
  ·exact .inl hf
  ·exact .inr ⟨hn,block_lt hcur⟩
 have l1:=h.le_grow hw.ext (F':=fun b' off=>C.F b' off\/b'=b) (fun _ _ h=>.inl h)
 refine ⟨_,h.grow hw.ext (F':=fun b' off=>C.F b' off\/b'=b) (fun _ _ h=>.inl h) hF',rfl,?_,l1⟩
 refine .sl true s rows b 0 cap g hw.le hw.max hw.width (fun _ _=>h.gnew b (by omega)) (fun i j c hij=>?_) (fun i j c hij=>(hcell i j c hij).2.2.1) (fun i j c hij=>(hcell i j c hij).2.2.2.mono l1)
 obtain ⟨a1,a2,_,_⟩:=hcell i j c hij
 refine ⟨?_,.inr rfl,a2⟩
 simp only [Nat.zero_add]
 rw [cell_of_row _ _ _ _ _ _ hcur]
 exact a1
theorem Inv.mkSl (h:Inv E n C st a) {w':World} {b cap s:Nat} {rows:List (List V)} (hw:NewRow C w' b cap s rows) {mode d:Option Nat} {K:St->Prop} (hk:newSl s rows mode d st K) :
  ∃ C' st' v,Inv E n C' st' a/\C'.w=w'/\R C' v (.slice (some ⟨b,0,none⟩) rows.length cap)/\K (st'.put d v):=by
 cases mode with
 |none =>
  obtain ⟨C',h1,h2,h3,_⟩:=h.newVal hw
  exact ⟨C',st,_,h1,h2,h3,hk⟩
 |some r =>
  obtain ⟨h0,hk⟩:=hk
  obtain ⟨C',h1,h2,h3,_⟩:=h.newRows hw h0
  exact ⟨C',_,_,h1,h2,h3,hk⟩
theorem Inv.newNil (h:Inv E n C st a) {s r:Nat} (hr:(st.heap r).isDead=true) :
  ∃ C',Inv E n C' (st.set r (.rows s [])) a/\C'.w=C.w/\R C' (.sref r 0 0) (.slice none 0 0)/\Le C C':=by
 have l2:=h.le_obj hr (.rows s []) none
 refine ⟨{ C with heap:=upd C.heap r (.rows s []),loc:=upd C.loc r none },h.obj hr ?_ ?_,rfl,.srefNil r s (by simp [upd]) (by simp [upd]),l2⟩
 ·unfold ObjOk
  simp [upd]
 ·intro L' hL'; cases hL'
theorem okOp_box {x:X} {r:Nat} {op:Op} (h:okOp P (.box x r) op=true):∃ t y,op=.box t y/\okX x y=true:=by
 cases op with
 |box t y=>exact ⟨t,y,rfl,by simpa [okOp] using h⟩
 |_=>simp [okOp] at h
theorem snd_box {x:X} {r:Nat}:Snd P (.box x r):=by
 intro E n C st a o d K next Q hinv hok hd h hn _
 obtain ⟨t,y,hop,hx⟩:=okOp_box hok
 simp only [eff] at h
 obtain ⟨hv,hr,hK⟩:=h
 obtain ⟨hl,hc⟩:=R_cells (hinv.ev hx) hv
 obtain ⟨C',h1,h2,h3,_⟩:=hinv.newBox (Ext.alloc C.w (.cells (a.eval y).cells t)) (Nat.le_refl _) (heap_alloc_new C.w _) hr hc
 refine wp_value (u:=.pointer (some ⟨C.w.heap.size,0,none⟩)) (w':=C'.w) ?_ (hn C' _ _ (h1.put hd h3) hK)
 rw [h2]
 simp [execOp,hop,Instr.box,newVar,newRow]
theorem isNil_spec {y:Operand} (h:isNil y=true):y=.const (.slice none 0 0):=by
 unfold isNil at h
 split at h
 ·rfl
 ·cases h
theorem okOp_nil {s r:Nat} {op:Op} (h:okOp P (.nil s r) op=true):∃ x,(op=.move x\/op=.assign x)/\x=.const (.slice none 0 0):=by
 cases op with
 |move y=>exact ⟨y,.inl rfl,isNil_spec (by simpa [okOp] using h)⟩
 |assign y=>exact ⟨y,.inr rfl,isNil_spec (by simpa [okOp] using h)⟩
 |_=>simp [okOp] at h
theorem snd_nil {s r:Nat}:Snd P (.nil s r):=by
 intro E n C st a o d K next Q hinv hok hd h hn _
 obtain ⟨x,hop,rfl⟩:=okOp_nil hok
 simp only [eff] at h
 obtain ⟨C',h1,h2,h3,_⟩:=hinv.newNil (s:=s) h.1
 rw [<- h2]
 refine wp_value (u:=.slice none 0 0) (w':=C'.w) ?_ (hn C' _ _ (h1.put hd h3) h.2)
 rcases hop with hop|hop <;> simp [execOp,hop,Act.eval]
theorem okDense_R (hinv:Inv E n C st a):∀ {k:Nat} {l:List X} {m:List (Nat×Operand)},okDense k l m=true ->
  m.map (fun p=>(p.1,a.eval p.2))=((m.map (fun p=>a.eval p.2)).zipIdx k).map (fun x=>(x.2,x.1))/\l.length=m.length/\∀ (j:Nat) (x:X),l[j]?=some x->R C (x.ev st) ((m.map (fun p=>a.eval p.2)).getD j undef)
 |_,[],[],_=>⟨rfl,rfl,fun j x hx=>by simp at hx⟩
 |_,[],_::_,h=>by simp [okDense] at h
 |_,_::_,[],h=>by simp [okDense] at h
 |k,x::l,(i,y)::m,h=>by
  simp only [okDense,Bool.and_eq_true,beq_iff_eq] at h
  obtain ⟨⟨rfl,h1⟩,h2⟩:=h
  obtain ⟨e1,e2,e3⟩:=okDense_R hinv h2
  refine ⟨by simp [e1],by simp [e2],fun j x' hx=>?_⟩
  cases j with
  |zero=>simp at hx; subst hx; simpa using hinv.ev h1
  |succ j=>simpa using e3 j x' (by simpa using hx)
theorem zeroIs_spec {t:Nat} {f:Value->Bool} (h:zeroIs P t f=true):∃ i z,P.info? t=some i/\i.zero=some z/\f z=true:=by
 unfold zeroIs at h
 cases hi:P.info? t with
 |none=>simp [hi] at h
 |some i =>
  simp only [hi,Option.any_some] at h
  split at h
  ·rename_i z hz; exact ⟨i,z,rfl,hz,h⟩
  ·cases h
theorem okOp_bsl {s:Nat} {parts:List X} {mode:Option Nat} {op:Op} (h:okOp P (.bsl s parts mode) op=true) :
  ∃ t ps e i z,op=.buildSlice t parts.length ps/\P.underlying t=some (.slice e)/\P.info? e=some i/\i.size=s/\0 < s/\i.zero=some z/\z.cells.size=s/\parts.length * s<=16777216/\okDense 0 parts ps.toList=true:=by
 cases op with
 |buildSlice t len ps =>
  simp only [okOp,Bool.and_eq_true,beq_iff_eq,decide_eq_true_eq] at h
  obtain ⟨⟨⟨h1,rfl⟩,h2⟩,h3⟩:=h
  split at h1
  ·rename_i e hu
   simp only [Bool.and_eq_true,decide_eq_true_eq] at h1
   obtain ⟨⟨h4,h5⟩,h6⟩:=h1
   obtain ⟨i,hi,hs⟩:=szOk_spec h4
   obtain ⟨i',z,hi',hz,hf⟩:=zeroIs_spec h6
   rw [hi] at hi'; cases hi'
   exact ⟨t,ps,e,i,z,rfl,hu,hi,hs,h5,hz,by simpa using hf,h2,h3⟩
  ·cases h1
 |_=>simp [okOp] at h
theorem at2_lt {rows:List (List V)} {i j:Nat} {c:V} (h:at2 rows i j=some c):∃ hi:i < rows.length,rows[i][j]?=some c:=by
 unfold at2 at h
 cases hr:rows[i]? with
 |none=>simp [hr] at h
 |some r =>
  obtain ⟨hi,rfl⟩:=List.getElem?_eq_some_iff.1 hr
  exact ⟨hi,by simpa [hr] using h⟩
theorem div_of {i j s:Nat} (hj:j < s):(i * s+j) / s=i/\(i * s+j) % s=j:=by
 have hs:0 < s:=by omega
 constructor
 ·rw [Nat.mul_comm,Nat.mul_add_div hs,Nat.div_eq_of_lt hj,Nat.add_zero]
 ·rw [Nat.mul_comm,Nat.mul_add_mod,Nat.mod_eq_of_lt hj]
theorem snd_bsl {s:Nat} {parts:List X} {mode:Option Nat}:Snd P (.bsl s parts mode):=by
 intro E n C st a o d K next Q hinv hok hd h hn _
 obtain ⟨t,ps,e,i,z,hop,hu,hi,hs,h0,hz,hzs,hsm,hden⟩:=okOp_bsl hok
 obtain ⟨e1,e2,e3⟩:=okDense_R hinv hden
 cases parts with
 |nil =>
  have hps:ps=#[]:=by
   have:ps.toList=[]:=List.eq_nil_of_length_eq_zero (by simpa using e2.symm)
   exact Array.toList_eq_nil_iff.1 this
  subst hps
  have hrun:(execOp a.eval o).run P C.w=.ok (.value (.slice (some ⟨C.w.heap.size,0,none⟩) 0 0)) (C.w.alloc (.cells #[] e)):=by
   simp [execOp,hop,Instr.buildSlice,run_underlying hu,sizeOf,typeInfo,hi,Instr.fill,newRow]
   have e0:Array.range 0=#[]:=Array.toList_eq_nil_iff.1 (by simp)
   rw [e0]
   simp
  simp only [eff] at h
  cases mode with
  |none =>
   refine wp_value hrun ?_
   exact hn { C with w:=C.w.alloc (.cells #[] e) } _ _ ((hinv.ext (Ext.alloc C.w _)).put hd (.nilsSome s _ _)) h
  |some r =>
   have hnew:NewRow C (C.w.alloc (.cells #[] e)) C.w.heap.size 0 s [] :=
    ⟨Ext.alloc _ _,Nat.le_refl _,Nat.le_refl _,by simp [maxLen],by simp,#[],e,fun _ _=>undef,heap_alloc_new C.w _,by simp,fun i j c hij=>by simp [at2] at hij⟩
   obtain ⟨C',h1,h2,h3,_⟩:=hinv.newRows hnew h.1
   rw [<- h2] at hrun
   exact wp_value hrun (hn C' _ _ (h1.put hd h3) h.2)
 |cons p rest =>
  simp only [eff] at h
  obtain ⟨hall,h⟩:=h
  generalize hp:p::rest=parts at *
  have hne:parts.length≠0:=by rw [<- hp]; simp
  have hpart:∀ (j:Nat) (x:X),parts[j]?=some x->(x.ev st).val=true/\V.closedL (x.ev st).cells=true/\(x.ev st).cells.length=s:=by
   intro j x hx
   have:=List.all_eq_true.1 hall x (List.mem_of_getElem? hx)
   simpa [Bool.and_eq_true,and_assoc] using this
  have hlen:(ps.toList.map fun p=>a.eval p.2).length=parts.length:=by simpa using e2.symm
  have hcs:∀ v∈ps.toList.map (fun p=>a.eval p.2),v.cells.size=s:=by
   intro v hv
   obtain ⟨j,hj⟩:=List.getElem?_of_mem hv
   have hlt:j < parts.length:=by rw [<- hlen]; exact (List.getElem?_eq_some_iff.1 hj).1
   have hx:=List.getElem?_eq_getElem hlt
   obtain ⟨v1,v2,v3⟩:=hpart j _ hx
   have hr:=e3 j _ hx
   have:(ps.toList.map fun p=>a.eval p.2).getD j undef=v:=by simp only [List.getD,hj,Option.getD_some]
   rw [this] at hr
   rw [<- (R_cells hr v1).1]; exact v3
  obtain ⟨cur,hf,hsz,hk⟩:=Great.fill_dense h0 (ps.toList.map fun p=>a.eval p.2) 0 ((Array.range (parts.length * s)).map (z.cells[· % z.cells.size]!)) hcs (by simp [hlen])
  have hrun:(Instr.buildSlice t parts.length (ps.map fun p=>(p.1,a.eval p.2))).run P C.w=.ok (.slice (some ⟨C.w.heap.size,0,none⟩) parts.length parts.length) (C.w.alloc (.cells cur e)):=by
   refine run_buildSlice C.w t e parts.length _ cur i z hu hi hz (by rw [hs]; omega) ?_ ?_
   ·rw [hs]; intro h; rcases Nat.mul_eq_zero.1 h with h|h <;> omega
   ·rw [hs]
    simp only [Array.toList_map]
    rw [e1]
    exact hf
  have hszc:cur.size=parts.length * s:=by rw [hsz]; simp
  have hnew:NewRow C (C.w.alloc (.cells cur e)) C.w.heap.size parts.length s (parts.map fun p=>(p.ev st).cells):=by
   refine ⟨Ext.alloc _ _,Nat.le_refl _,by simp,?_,?_,cur,e,fun i j=>(((ps.toList.map fun p=>a.eval p.2).getD i undef).cells.getD j undef),heap_alloc_new C.w _,hszc,fun i j c hij=>?_⟩
   ·simp [maxLen]
    have:parts.length<=parts.length * s:=Nat.le_mul_of_pos_right _ h0
    omega
   ·intro r hr
    obtain ⟨x,hx,rfl⟩:=List.mem_map.1 hr
    obtain ⟨j,hj⟩:=List.getElem?_of_mem hx
    exact (hpart j x hj).2.2
   ·obtain ⟨hi',hc⟩:=at2_lt hij
    simp only [List.length_map] at hi'
    simp only [List.getElem_map] at hc
    have hx:=List.getElem?_eq_getElem hi'
    obtain ⟨v1,v2,v3⟩:=hpart i _ hx
    have hr:=e3 i _ hx
    obtain ⟨r1,r2⟩:=R_cells hr v1
    obtain ⟨r3,r4,r5⟩:=r2 j c hc
    have hj:j < s:=by rw [<- v3]; exact (List.getElem?_eq_some_iff.1 hc).1
    obtain ⟨d1,d2⟩:=div_of (i:=i) hj
    refine ⟨?_,r4,closedL_all v2 j c hc,r5⟩
    rw [hk,if_pos,d1,d2]
    ·have:(ps.toList.map fun p=>a.eval p.2)[i - 0]?=some ((ps.toList.map fun p=>a.eval p.2).getD i undef):=by
      simp only [Nat.sub_zero,List.getD_eq_getElem?_getD]
      rw [List.getElem?_eq_getElem (by rw [hlen]; exact hi')]
      rfl
     rw [this]
     exact r3
    ·refine ⟨by omega,?_⟩
     rw [hlen,Nat.zero_add]
     have:i * s+s<=parts.length * s:=by rw [<- Nat.succ_mul]; exact Nat.mul_le_mul_right _ hi'
     omega
  obtain ⟨C',st',v,h1,h2,h3,h4⟩:=hinv.mkSl hnew h
  simp only [List.length_map] at h3
  refine wp_value (u:=.slice (some ⟨C.w.heap.size,0,none⟩) parts.length parts.length) (w':=C'.w) ?_ (hn C' _ _ (h1.put hd h3) h4)
  rw [h2]
  simp only [execOp,hop,Sem.run_bind]
  rw [show (ps.map fun (x:Nat×Operand)=>match x with|(i,x)=>(i,a.eval x))=ps.map fun p=>(p.1,a.eval p.2) from rfl,hrun]
  rfl
theorem okOp_mks {s bytes:Nat} {z:List V} {x:X} {mode:Option Nat} {op:Op} (h:okOp P (.mks s bytes z x mode) op=true) :
  ∃ t l c e i u,op=.makeSlice t l c/\P.underlying t=some (.slice e)/\P.info? e=some i/\i.size=s/\i.bytes=bytes/\0 < s/\i.zero=some u/\zOk z u.cells.toList=true/\z.length=s/\V.closedL z=true/\(∀ v∈u.cells.toList,v.oneCell'=true)/\okX x l=true/\okX x c=true:=by
 cases op with
 |makeSlice t l c =>
  simp only [okOp,Bool.and_eq_true] at h
  obtain ⟨⟨h1,h2⟩,h3⟩:=h
  split at h1
  ·rename_i e hu
   cases hi:P.info? e with
   |none=>simp [hi] at h1
   |some i =>
    simp only [hi,Option.any_some,Bool.and_eq_true,beq_iff_eq,decide_eq_true_eq] at h1
    obtain ⟨⟨⟨h4,h5⟩,h6⟩,h7⟩:=h1
    split at h7
    ·rename_i u hz
     simp only [Bool.and_eq_true,beq_iff_eq] at h7
     obtain ⟨⟨⟨h8,h9⟩,h10⟩,h11⟩:=h7
     exact ⟨t,l,c,e,i,u,rfl,hu,hi,h4,h5,h6,hz,h8,h9,h10,fun v hv=>Array.all_eq_true_iff_forall_mem.1 h11 v (by simpa using hv),h2,h3⟩
    ·cases h7
  ·cases h1
 |_=>simp [okOp] at h
theorem zOk_R:∀ {l:List V} {m:List Value},zOk l m=true->l.length=m.length/\∀ (j:Nat) (c:V),l[j]?=some c->∃ u,m[j]?=some u/\∀ C:Ctx,R C c u
 |[],[],_=>⟨rfl,fun j c hj=>by simp at hj⟩
 |[],_::_,h=>by simp [zOk] at h
 |_::_,[],h=>by simp [zOk] at h
 |v::l,u::m,h=>by
  simp only [zOk,Bool.and_eq_true] at h
  obtain ⟨e1,e2⟩:=zOk_R h.2
  refine ⟨by simp [e1],fun j c hj=>?_⟩
  cases j with
  |zero=>simp at hj; subst hj; exact ⟨u,rfl,constOk_R h.1⟩
  |succ j=>simpa using e2 j c (by simpa using hj)
theorem at2_replicate {k i j:Nat} {z:List V} {c:V} (h:at2 (List.replicate k z) i j=some c):i < k/\z[j]?=some c:=by
 obtain ⟨h1,h2⟩:=at2_lt h
 simp only [List.length_replicate] at h1
 exact ⟨h1,by simpa using h2⟩
theorem snd_mks {s bytes:Nat} {z:List V} {x:X} {mode:Option Nat}:Snd P (.mks s bytes z x mode):=by
 intro E n C st a o d K next Q hinv hok hd h hn _
 obtain ⟨t,l,c,e,i,u,hop,hu,hi,hs,hb,h0,hz,hzo,hzl,hzc,hz1,hl,hc⟩:=okOp_mks hok
 obtain ⟨zl,zr⟩:=zOk_R hzo
 have hL:=hinv.ev hl
 have hC:=hinv.ev hc
 simp only [eff] at h
 split at h
 ·rename_i m ex
  rw [ex] at hL hC
  have hL:=R_int hL
  have hC:=R_int hC
  obtain ⟨m0,m1,m2,h⟩:=h
  obtain ⟨k,rfl⟩:=Int.eq_ofNat_of_zero_le m0
  simp only [Int.toNat_natCast] at h
  have hsz:u.cells.size=s:=by rw [<- hzl,zl]; simp
  have hw:IntKind.i64.wrap (k:Int)=k:=by
   unfold IntKind.wrap IntKind.signed IntKind.bits
   simp only [Bool.true_and,decide_eq_true_eq]
   omega
  let cur:Array Value:=(Array.range (k * s)).map (u.cells[· % u.cells.size]!)
  have hrun:(execOp a.eval o).run P C.w=.ok (.value (.slice (some ⟨C.w.heap.size,0,none⟩) k k)) (C.w.alloc (.cells cur e)):=by
   have n1:¬ ((k:Int) < 0):=by omega
   have n2:¬ ((281474976710656:Int) < bytes * (k:Int)):=by omega
   by_cases hk:k=0
   ·subst hk
    have e0:cur=#[]:=by simp only [cur,Nat.zero_mul]; exact Array.toList_eq_nil_iff.1 (by simp)
    rw [e0]
    have hw0:IntKind.i64.wrap 0=0:=hw
    have e1:Array.range 0=#[]:=Array.toList_eq_nil_iff.1 (by simp)
    simp [execOp,hop,hL,hC,Instr.makeSlice,run_underlying hu,asInt,asIntOf,typeInfo,hi,hw0,sizeOf,newRow,e1]
   ·have hks:k * s≠0:=by intro h; rcases Nat.mul_eq_zero.1 h with h|h <;> omega
    simp [execOp,hop,hL,hC,Instr.makeSlice,run_underlying hu,asInt,asIntOf,typeInfo,hi,hb,hw,n1,n2,sizeOf,hs,hks,zeroValue,hz,newRow,cur]
  have hnew:NewRow C (C.w.alloc (.cells cur e)) C.w.heap.size k s (List.replicate k z):=by
   refine ⟨Ext.alloc _ _,Nat.le_refl _,by simp,by simp [maxLen]; omega,fun r hr=>by rw [(List.mem_replicate.1 hr).2]; exact hzl,cur,e,fun _ j=>u.cells.getD j undef,heap_alloc_new C.w _,by simp [cur],fun i j c hij=>?_⟩
   obtain ⟨h1,h2⟩:=at2_replicate hij
   obtain ⟨v,hv,hr⟩:=zr j c h2
   have hj:j < s:=by rw [<- hzl]; exact (List.getElem?_eq_some_iff.1 h2).1
   obtain ⟨d1,d2⟩:=div_of (i:=i) hj
   have hv':u.cells.getD j undef=v:=by
    rw [Array.getElem?_toList] at hv
    simp [Array.getD_eq_getD_getElem?,hv]
   dsimp only
   rw [hv']
   refine ⟨?_,hz1 v (List.mem_of_getElem? hv),closedL_all hzc j c h2,hr _⟩
   have hlt:i * s+j < k * s:=by
    have:i * s+s<=k * s:=by rw [<- Nat.succ_mul]; exact Nat.mul_le_mul_right _ h1
    omega
   have hju:j < u.cells.size:=by omega
   simp only [cur,Array.getElem?_map,Array.getElem?_range,hlt,if_true,Option.map_some,hsz,d2]
   rw [Array.getElem?_toList] at hv
   simp [getElem!_def,hv]
  obtain ⟨C',st',v,h1,h2,h3,h4⟩:=hinv.mkSl hnew h
  simp only [List.length_replicate] at h3
  rw [<- h2] at hrun
  exact wp_value hrun (hn C' _ _ (h1.put hd h3) h4)
 ·exact h.elim
end Go.Ab

namespace Go.Ab
open Go
variable {E:Ent} {n:Sz} {C:Ctx} {st:St} {a:Act} {P:Program}
theorem setR_spec {cs vs:List V} {off:Nat} (h:off+vs.length<=cs.length) :
  (setR cs off vs).length=cs.length/\∀ j,(setR cs off vs)[j]?=if off<=j/\j < off+vs.length then vs[j - off]? else cs[j]?:=by
 have gen:∀ vs:List V,off+vs.length<=cs.length->(cs.take off ++ vs ++ cs.drop (off+vs.length)).length=cs.length/\∀ j,(cs.take off ++ vs ++ cs.drop (off+vs.length))[j]?=if off<=j/\j < off+vs.length then vs[j - off]? else cs[j]?:=by
  intro vs h
  refine ⟨by simp; omega,fun j=>?_⟩
  have hl:(cs.take off).length=off:=by simp; omega
  by_cases h1:j < off
  ·rw [if_neg (by omega),List.append_assoc,List.getElem?_append_left (by omega),List.getElem?_take,if_pos h1]
  ·by_cases h2:j < off+vs.length
   ·rw [if_pos ⟨by omega,h2⟩,List.append_assoc,List.getElem?_append_right (by omega),hl,List.getElem?_append_left (by omega)]
   ·rw [if_neg (by omega),List.append_assoc,List.getElem?_append_right (by omega),hl,List.getElem?_append_right (by omega),List.getElem?_drop]
    congr 1; omega
 unfold setR
 split
 ·rename_i v
  simp only [List.length_singleton] at h
  refine ⟨by simp,fun j=>?_⟩
  simp only [List.length_singleton,List.getElem?_set]
  by_cases e:off=j
  ·subst e; rw [if_pos rfl,if_pos (by omega),if_pos (by omega)]; simp
  ·rw [if_neg e,if_neg (by omega)]
 ·exact gen vs h
def CellsR (C:Ctx) (cs:List V) (f:Nat->Option Value):Prop :=
 ∀ (j:Nat) (c:V),cs[j]?=some c->∃ u,f j=some u/\u.oneCell'=true/\R C c u
theorem CellsR.setR {cs vs:List V} {f g:Nat->Option Value} {off:Nat} (h:CellsR C cs f) (hv:CellsR C vs g) (hl:off+vs.length<=cs.length) :
  CellsR C (setR cs off vs) (fun j=>if off<=j/\j < off+vs.length then g (j - off) else f j):=by
 intro j c hj
 rw [(setR_spec hl).2] at hj
 by_cases e:off<=j/\j < off+vs.length
 ·rw [if_pos e] at hj
  simp only [e,and_self,if_true]
  exact hv _ c hj
 ·rw [if_neg e] at hj
  simp only [e,if_false]
  exact h j c hj
theorem cellsR_val {v:V} {u:Value} (h:R C v u) (hv:v.val=true):CellsR C v.cells (fun j=>u.cells[j]?):=by
 intro j c hj
 obtain ⟨a1,a2,a3⟩:=(R_cells h hv).2 j c hj
 exact ⟨_,a1,a2,a3⟩
theorem run_mapMList {α β:Type} (f:α->Sem β) (g:α->β) (w:World):∀ (l:List α),(∀ x∈l,(f x).run P w=.ok (g x) w)->(l.mapM f).run P w=.ok (l.map g) w
 |[],_=>by simp
 |x::l,h=>by
  have h1:=h x (by simp)
  have h2:=run_mapMList f g w l (fun y hy=>h y (by simp [hy]))
  simp [List.mapM_cons,h1,h2]
theorem run_mapMArray {α β:Type} (f:α->Sem β) (g:α->β) (w:World) (l:Array α) (h:∀ x∈l.toList,(f x).run P w=.ok (g x) w):(l.mapM f).run P w=.ok (l.map g) w:=by
 rw [Array.mapM_eq_mapM_toList]
 simp only [Sem.run_map,run_mapMList f g w l.toList h,Result.andThen_ok]
 congr 1
 apply Array.ext'
 simp
theorem fill_R (hinv:Inv E n C st a) (place:Nat->Option (Nat×Nat)):∀ (parts:List (Nat×Nat×X)) (ps:List (Nat×Operand)) (cs:List V) (arr:Array Value),
  (∀ (j:Nat) (p:Nat×Nat×X) (q:Nat×Operand),parts[j]?=some p->ps[j]?=some q->place q.1=some (p.1,p.2.1)/\okX p.2.2 q.2=true)->parts.length=ps.length ->
  (∀ p∈parts,(p.2.2.ev st).val=true/\(p.2.2.ev st).cells.length=p.2.1/\p.1+p.2.1<=cs.length) ->
  cs.length=arr.size->CellsR C cs (fun j=>arr[j]?) ->
  ∃
   r,Instr.fill place arr (ps.map fun q=>(q.1,a.eval q.2))=some r/\r.size=arr.size/\(parts.foldl (fun cs p=>setR cs p.1 (p.2.2.ev st).cells) cs).length=cs.length /\
   CellsR C (parts.foldl (fun cs p=>setR cs p.1 (p.2.2.ev st).cells) cs) (fun j=>r[j]?)
 |[],ps,cs,arr,_,hl,_,_,hc=>by
  have:ps=[]:=List.eq_nil_of_length_eq_zero (by simpa using hl.symm)
  subst this
  exact ⟨arr,rfl,rfl,rfl,hc⟩
 |p::parts,[],_,_,_,hl,_,_,_=>by simp at hl
 |p :: parts,q::ps,cs,arr,hp,hl,hv,hs,hc=>by
  obtain ⟨h1,h2⟩:=hp 0 p q rfl rfl
  obtain ⟨v1,v2,v3⟩:=hv p (by simp)
  have hR:=hinv.ev h2
  obtain ⟨c1,c2⟩:=R_cells hR v1
  have hsz:(a.eval q.2).cells.size=p.2.1:=by rw [<- c1]; exact v2
  obtain ⟨g1,g2⟩:=Great.foldl_set p.1 (a.eval q.2).cells.toList 0 arr
  have hle:p.1+(p.2.2.ev st).cells.length<=cs.length:=by rw [v2]; exact v3
  have hset:=setR_spec hle
  have hc':CellsR C (setR cs p.1 (p.2.2.ev st).cells) (fun j=>(((a.eval q.2).cells.toList.zipIdx 0).foldl (fun cs (x:Value×Nat)=>cs.setIfInBounds (p.1+x.2) x.1) arr)[j]?):=by
   intro j c hj
   have:=(hc.setR (cellsR_val hR v1) hle) j c hj
   obtain ⟨u,hu,r⟩:=this
   refine ⟨u,?_,r⟩
   simp only
   rw [g2 j]
   simp only [Nat.add_zero,Array.length_toList,hsz]
   rw [v2] at hu
   by_cases e:p.1<=j/\j < p.1+p.2.1
   ·rw [if_pos ⟨e.1,e.2,by omega⟩]
    simp only [e,and_self,if_true] at hu
    rw [Array.getElem?_toList]
    exact hu
   ·rw [if_neg (by omega)]
    simp only [e,if_false] at hu
    exact hu
  obtain ⟨r,e1,e2,e3,e4⟩:=fill_R hinv place parts ps (setR cs p.1 (p.2.2.ev st).cells) _ (fun j p' q' h h'=>hp (j+1) p' q' (by simpa using h) (by simpa using h')) (by simpa using hl)
   (fun p' hp'=>by rw [hset.1]; exact hv p' (by simp [hp'])) (by rw [hset.1,g1]; exact hs) hc'
  refine ⟨r,?_,e2.trans g1,by simp only [List.foldl_cons]; rw [e3,hset.1],e4⟩
  simp only [List.map_cons]
  unfold Instr.fill
  simp only [h1,hsz]
  rw [if_neg (by simp; omega),<- e1]
  congr 1
  rw [<- Array.foldl_toList,Array.toList_zipIdx]
theorem okParts_spec {fs:Array Field}:∀ {l:List (Nat×Nat×X)} {m:List (Nat×Operand)},okParts fs P l m=true ->
  l.length=m.length/\∀ (j:Nat) (p:Nat×Nat×X) (q:Nat×Operand),l[j]?=some p->m[j]?=some q->(∃ f i,fs[q.1]?=some f/\f.offset=p.1/\P.info? f.type=some i/\i.size=p.2.1)/\okX p.2.2 q.2=true
 |[],[],_=>⟨rfl,fun j p q h=>by simp at h⟩
 |[],_::_,h=>by simp [okParts] at h
 |_::_,[],h=>by simp [okParts] at h
 |(off,n,x)::l,(i,y)::m,h=>by
  simp only [okParts,Bool.and_eq_true] at h
  obtain ⟨⟨h1,h2⟩,h3⟩:=h
  obtain ⟨e1,e2⟩:=okParts_spec h3
  refine ⟨by simp [e1],fun j p q hp hq=>?_⟩
  cases j with
  |zero =>
   simp only [List.getElem?_cons_zero,Option.some.injEq] at hp hq
   subst hp hq
   split at h1
   ·rename_i f hf
    simp only [Bool.and_eq_true,beq_iff_eq] at h1
    obtain ⟨ii,hi,hs⟩:=szOk_spec h1.2
    exact ⟨⟨f,ii,hf,h1.1,hi,hs⟩,h2⟩
   ·cases h1
  |succ j=>exact e2 j p q (by simpa using hp) (by simpa using hq)
theorem okPartsA_spec {s len:Nat}:∀ {l:List (Nat×Nat×X)} {m:List (Nat×Operand)},okPartsA s len l m=true ->
  l.length=m.length/\∀ (j:Nat) (p:Nat×Nat×X) (q:Nat×Operand),l[j]?=some p->m[j]?=some q->q.1 * s=p.1/\p.2.1=s/\okX p.2.2 q.2=true
 |[],[],_=>⟨rfl,fun j p q h=>by simp at h⟩
 |[],_::_,h=>by simp [okPartsA] at h
 |_::_,[],h=>by simp [okPartsA] at h
 |(off,n,x)::l,(i,y)::m,h=>by
  simp only [okPartsA,Bool.and_eq_true,beq_iff_eq] at h
  obtain ⟨⟨⟨⟨h0,h1⟩,h2⟩,h3⟩,h4⟩:=h
  obtain ⟨e1,e2⟩:=okPartsA_spec h4
  refine ⟨by simp [e1],fun j p q hp hq=>?_⟩
  cases j with
  |zero =>
   simp only [List.getElem?_cons_zero,Option.some.injEq] at hp hq
   subst hp hq
   exact ⟨h1.symm,h2,h3⟩
  |succ j=>exact e2 j p q (by simpa using hp) (by simpa using hq)
theorem okOp_build {z:List V} {parts:List (Nat×Nat×X)} {op:Op} (h:okOp P (.build z parts) op=true) :
  ∃
   t ps i v,op=.build t ps/\P.info? t=some i/\i.zero=some v/\zOk z v.cells.toList=true/\(∀ u∈v.cells.toList,u.oneCell'=true)/\(∀ p∈parts,p.1+p.2.1<=z.length) /\
   (
    (∃ fs,P.underlying t=some (.struct fs)/\okParts fs P parts ps.toList=true/\∀ f∈fs.toList,(P.info? f.type).isSome=true) \/
    (∃ len e ie,P.underlying t=some (.array len e)/\P.info? e=some ie/\okPartsA ie.size len parts ps.toList=true)):=by
 cases op with
 |build t ps =>
  simp only [okOp,Bool.and_eq_true] at h
  obtain ⟨⟨h1,h2⟩,h3⟩:=h
  obtain ⟨i,v,hi,hv,hf⟩:=zeroIs_spec h1
  simp only [Bool.and_eq_true] at hf
  refine ⟨t,ps,i,v,rfl,hi,hv,hf.1,fun u hu=>Array.all_eq_true_iff_forall_mem.1 hf.2 u (by simpa using hu),fun p hp=>by simpa using List.all_eq_true.1 h2 p hp,?_⟩
  split at h3
  ·rename_i fs hu
   simp only [Bool.and_eq_true] at h3
   exact .inl ⟨fs,hu,h3.1,fun f hf=>Array.all_eq_true_iff_forall_mem.1 h3.2 f (by simpa using hf)⟩
  ·rename_i len e hu
   cases hie:P.info? e with
   |none=>simp [hie] at h3
   |some ie=>simp only [hie,Option.any_some] at h3; exact .inr ⟨len,e,ie,hu,hie,h3⟩
  ·cases h3
 |_=>simp [okOp] at h
theorem snd_build {z:List V} {parts:List (Nat×Nat×X)}:Snd P (.build z parts):=by
 intro E n C st a o d K next Q hinv hok hd h hn _
 obtain ⟨t,ps,i,v,hop,hi,hz,hzo,hz1,hle,hkind⟩:=okOp_build hok
 obtain ⟨zl,zr⟩:=zOk_R hzo
 simp only [eff] at h
 obtain ⟨hall,hK⟩:=h
 have hall':∀ p∈parts,(p.2.2.ev st).val=true/\(p.2.2.ev st).cells.length=p.2.1/\p.1+p.2.1<=z.length:=by
  intro p hp
  have:=List.all_eq_true.1 hall p hp
  simp only [Bool.and_eq_true,beq_iff_eq] at this
  exact ⟨this.1,this.2,hle p hp⟩
 have hz0:CellsR C z (fun j=>v.cells[j]?):=by
  intro j c hj
  obtain ⟨u,hu,hr⟩:=zr j c hj
  exact ⟨u,by dsimp only; rw [<- Array.getElem?_toList]; exact hu,hz1 u (List.mem_of_getElem? hu),hr C⟩
 have hzl:z.length=v.cells.size:=by simpa using zl
 have fin:∀ place:Nat->Option (Nat×Nat),(∀ (j:Nat) (p:Nat×Nat×X) (q:Nat×Operand),parts[j]?=some p->ps.toList[j]?=some q->place q.1=some (p.1,p.2.1)/\okX p.2.2 q.2=true)->parts.length=ps.toList.length ->
   (∀ r,Instr.fill place v.cells (ps.toList.map fun q=>(q.1,a.eval q.2))=some r->(execOp a.eval o).run P C.w=.ok (.value (.agg r)) C.w)->o.wp P a C.w next Q:=by
  intro place hp hl hrun
  obtain ⟨r,e1,e2,e3,e4⟩:=fill_R hinv place parts ps.toList z v.cells hp hl hall' hzl hz0
  refine wp_value (hrun r e1) (hn C _ _ (hinv.put hd ?_) hK)
  have hlen:(parts.foldl (fun cs p=>setR cs p.1 (p.2.2.ev st).cells) z).length=r.toList.length:=by rw [e3,hzl,<- e2]; simp
  have:R C (.agg (parts.foldl (fun cs p=>setR cs p.1 (p.2.2.ev st).cells) z)) (.agg r.toList.toArray):=by
   refine .agg _ _ hlen (fun u hu=>?_) fun j c hj=>?_
   ·obtain ⟨j,hj⟩:=List.getElem?_of_mem hu
    have hlt:j < (parts.foldl (fun cs p=>setR cs p.1 (p.2.2.ev st).cells) z).length:=by rw [hlen]; exact (List.getElem?_eq_some_iff.1 hj).1
    obtain ⟨u',h1,h2,_⟩:=e4 j _ (List.getElem?_eq_getElem hlt)
    rw [Array.getElem?_toList] at hj
    dsimp only at h1
    rw [hj] at h1; cases h1; exact h2
   ·obtain ⟨u',h1,_,h3⟩:=e4 j c hj
    have:r.toList.getD j undef=u':=by simp [List.getD,h1]
    rw [this]; exact h3
  simpa using this
 rcases hkind with ⟨fs,hu,hp,hfs⟩|⟨len,e,ie,hu,hie,hp⟩
 ·obtain ⟨p1,p2⟩:=okParts_spec hp
  refine fin (fun k=>(fs.map fun f=>(f.offset,P.cellsOf f.type))[k]?) (fun j p q h1 h2=>?_) p1 fun r hr=>?_
  ·obtain ⟨⟨f,ii,q1,q2,q3,q4⟩,q5⟩:=p2 j p q h1 h2
   exact ⟨by simp [q1,q2,Program.cellsOf,q3,q4],q5⟩
  ·have hm:=run_mapMArray (P:=P) (fun f:Field=>(do pure (f.offset,<- sizeOf f.type):Sem (Nat×Nat))) (fun f=>(f.offset,P.cellsOf f.type)) C.w fs (fun f hf=>by
    obtain ⟨ii,hii⟩:=Option.isSome_iff_exists.1 (hfs f hf)
    simp [sizeOf,typeInfo,hii,Program.cellsOf])
   have hr':Instr.fill (fun k=>(fs.map fun f=>(f.offset,P.cellsOf f.type))[k]?) v.cells (ps.map fun q=>(q.1,a.eval q.2)).toList=some r:=by rw [Array.toList_map]; exact hr
   simp only [execOp,hop,Sem.run_bind,Instr.build,zeroValue,typeInfo,run_program,hi,hz,Result.andThen_ok,Sem.run_pure,run_underlying hu,hm]
   rw [hr']
   rfl
 ·obtain ⟨p1,p2⟩:=okPartsA_spec hp
  refine fin (fun k=>some (k * ie.size,ie.size)) (fun j p q h1 h2=>?_) p1 fun r hr=>?_
  ·obtain ⟨q1,q2,q3⟩:=p2 j p q h1 h2
   exact ⟨by simp [q1,q2],q3⟩
  ·have hr':Instr.fill (fun k=>some (k * ie.size,ie.size)) v.cells (ps.map fun q=>(q.1,a.eval q.2)).toList=some r:=by rw [Array.toList_map]; exact hr
   simp only [execOp,hop,Sem.run_bind,Instr.build,zeroValue,typeInfo,run_program,hi,hz,Result.andThen_ok,Sem.run_pure,run_underlying hu,sizeOf,hie]
   rw [hr']
   rfl
end Go.Ab

namespace Go.Ab
open Go
variable {E:Ent} {n:Sz} {C:Ctx} {st:St} {a:Act} {P:Program}
theorem setRow_ext_ne {w:World} {g b:Nat} {cur:Array Value} (h:b≠g):(w.setRow g cur).heap[b]?=w.heap[b]?:=setRow_other w g b cur h
theorem size_setRow (w:World) (g:Nat) (cur:Array Value):(w.setRow g cur).heap.size=w.heap.size:=by simp [World.setRow]
theorem Inv.write (h:Inv E n C st a) {r:Nat} {L:Loc} {cur cur':Array Value} {e:TypeId} {o':AO} (hl:C.loc r=some L) (ha:(C.heap r).isDead=false)
  (hb:C.w.heap[L.blk]?=some (.cells cur e (0,0))) (hs:cur'.size=cur.size)
  (hD:∀ off,cur'[off]?≠cur[off]?->¬ C.F L.blk off/\(E.w0.heap.size<=L.blk\/E.Wr L.blk off))
  (hkind:(∃ cs cs',C.heap r=.box cs/\o'=.box cs')\/(∃ s rs rs',C.heap r=.rows s rs/\o'=.rows s rs'/\rs'.length=rs.length))
  (hok:Le C { C with w:=C.w.setRow L.blk cur',heap:=upd C.heap r o' }->ObjOk E { C with w:=C.w.setRow L.blk cur',heap:=upd C.heap r o' } r) :
  Inv E n { C with w:=C.w.setRow L.blk cur',heap:=upd C.heap r o' } (st.set r o') a:=by
 have hblk:(C.w.setRow L.blk cur').heap[L.blk]?=some (.cells cur' e (0,0)):=setRow_heap C.w L.blk cur cur' e _ hb
 have hle:Le C { C with w:=C.w.setRow L.blk cur',heap:=upd C.heap r o' }:=by
  refine ⟨fun b off hf=>⟨hf,?_⟩,fun _ h=>h,fun r' cs _ h'=>?_,fun r' s rs _ h'=>?_,fun r' ks vs _ h'=>?_⟩
  ·by_cases hbb:b=L.blk
   ·subst hbb
    have e1:cur'[off]?=cur[off]?:=by
     by_cases hh:cur'[off]?=cur[off]?
     ·exact hh
     ·exact absurd hf (hD off hh).1
    simp only
    rw [cell_of_row _ _ _ _ _ _ hblk,cell_of_row _ _ _ _ _ _ hb,e1]
   ·exact World.cell?_of_block (a:=⟨b,off,none⟩) (setRow_ext_ne hbb)
  ·by_cases hrr:r'=r
   ·subst hrr
    rcases hkind with ⟨c1,c2,k1,k2⟩|⟨s,c1,c2,k1,k2,k3⟩
    ·subst k2; exact ⟨⟨c2,by simp [upd]⟩,rfl⟩
    ·rw [k1] at h'; cases h'
   ·exact ⟨⟨cs,by simp [upd,hrr,h']⟩,rfl⟩
  ·by_cases hrr:r'=r
   ·subst hrr
    rcases hkind with ⟨c1,c2,k1,k2⟩|⟨s',c1,c2,k1,k2,k3⟩
    ·rw [k1] at h'; cases h'
    ·rw [k1] at h'; cases h'
     subst k2
     exact ⟨⟨c2,by simp [upd],k3⟩,rfl⟩
   ·exact ⟨⟨rs,by simp [upd,hrr,h'],rfl⟩,rfl⟩
  ·by_cases hrr:r'=r
   ·subst hrr
    rcases hkind with ⟨c1,c2,k1,k2⟩|⟨s',c1,c2,k1,k2,k3⟩ <;> (rw [k1] at h'; cases h')
   ·exact ⟨⟨ks,vs,by simp [upd,hrr,h']⟩,rfl⟩
 have hdead:∀ r',(upd C.heap r o' r').isDead=false->(C.heap r').isDead=false:=by
  intro r' hd
  by_cases hrr:r'=r
  ·subst hrr; exact ha
  ·simpa [upd,hrr] using hd
 have hh:Hist E { C with w:=C.w.setRow L.blk cur',heap:=upd C.heap r o' } a:=h.hist hle.F fun b o ho hb'=>(setRow_ext_ne fun e=>by subst e; rw [hb] at hb'; cases hb'; cases ho).trans hb'
 exact {
   heap := by simp [St.set,h.heap]
   env:=fun t=>(h.env t).mono hle
   objs:=fun r'=>by
    by_cases hrr:r'=r
    ·subst hrr; exact hok hle
    ·refine (h.objs r').mono hle ⟨fun b _ _ hF hG=>⟨rfl,setRow_ext_ne ((h.objs r).apart hl ha hF hG),fun _ h=>h⟩⟩ (by simp [upd,hrr]) rfl fun L' hl' ha'=>⟨?_,fun _ h=>h,fun h=>h⟩
     exact setRow_ext_ne fun ee=>hrr (h.inj r' r L' L hl' hl ha' ha ee)
   inj:=fun r1 r2 L1 L2 h1 h2 d1 d2 hb=>h.inj r1 r2 L1 L2 h1 h2 (hdead r1 d1) (hdead r2 d2) hb
   fin:=fun b off hf=>by simp only; rw [size_setRow]; exact h.fin b off hf
   gnew:=h.gnew,gsub:=h.gsub,par:=h.par,fnew:=h.fnew
   frame := ⟨h.frame.os,h.frame.output,h.frame.tape,by simp only; rw [size_setRow]; exact h.frame.size,fun b hlt=>by
    have hsame:=h.frame.same b hlt
    by_cases hbb:b=L.blk
    ·subst hbb
     simp only
     rw [hblk]
     rw [hb] at hsame
     cases ho:E.w0.heap[L.blk]? with
     |none=>rw [ho] at hsame; simp [sameBut] at hsame
     |some o =>
      rw [ho] at hsame
      cases o with
      |cells c e1 fr =>
       simp only [sameBut] at hsame ⊢
       obtain ⟨s1,s2,s3,s4⟩:=hsame
       refine ⟨s1,s2,hs.trans s3,fun off hw=>?_⟩
       have:cur'[off]?=cur[off]?:=by
        by_cases hh:cur'[off]?=cur[off]?
        ·exact hh
        ·rcases (hD off hh).2 with h1|h1
         ·omega
         ·exact absurd h1 hw
       rw [this]; exact s4 off hw
      |_=>simp [sameBut] at hsame
    ·simp only
     rw [setRow_ext_ne hbb]; exact hsame⟩
   marks:=hh.marks,mnd:=hh.mnd,fkeep:=hh.fkeep,stay:=hh.stay,wsz:=hh.wsz,mball:=h.mball,size:=h.size }
theorem run_storeAt {t k b o:Nat} {u:Value} {cur:Array Value} {e:TypeId} (hs:szOk P t k=true) (hk:u.cells.size=k) (h1:∀ v∈u.cells.toList,v.oneCell'=true) (w:World)
  (hb:w.heap[b]?=some (.cells cur e (0,0))) (hfit:o+k<=cur.size) :
  (Instr.storeAt t (.pointer (some ⟨b,o,none⟩)) u).run P w=.ok () (w.setRow b (cur.toList.take o ++ u.cells.toList ++ cur.toList.drop (o+k)).toArray):=by
 obtain ⟨i,hi,hsz⟩:=szOk_spec hs
 have:=run_storeCells_at P b o e u.cells.toList 0 cur w hb (by simpa [hk] using hfit) h1
 simp only [Nat.add_zero,Array.length_toList,hk] at this
 simp [Instr.storeAt,Instr.sureAddr,storeVar,sizeOf,typeInfo,hi,hsz,hk,this]
theorem splice_get {cur:Array Value} {vs:List Value} {o k:Nat} (hk:vs.length=k) (hfit:o+k<=cur.size) :
  (cur.toList.take o ++ vs ++ cur.toList.drop (o+k)).toArray.size=cur.size/\∀ j,(cur.toList.take o ++ vs ++ cur.toList.drop (o+k)).toArray[j]?=if o<=j/\j < o+k then vs[j - o]? else cur[j]?:=by
 refine ⟨by simp; omega,fun j=>?_⟩
 have hl:(cur.toList.take o).length=o:=by simp; omega
 rw [List.getElem?_toArray]
 by_cases h1:j < o
 ·rw [if_neg (by omega),List.append_assoc,List.getElem?_append_left (by omega),List.getElem?_take,if_pos h1,Array.getElem?_toList]
 ·by_cases h2:j < o+k
  ·rw [if_pos ⟨by omega,h2⟩,List.append_assoc,List.getElem?_append_right (by omega),hl,List.getElem?_append_left (by omega)]
  ·rw [if_neg (by omega),List.append_assoc,List.getElem?_append_right (by omega),hl,List.getElem?_append_right (by omega),List.getElem?_drop,Array.getElem?_toList]
   congr 1; omega
theorem okOp_store {k:Nat} {x v:X} {op:Op} (h:okOp P (.store k x v) op=true):∃ t y u,op=.store t y u/\szOk P t k=true/\0 < k/\okX x y=true/\okX v u=true:=by
 cases op with
 |store t y u =>
  simp only [okOp,Bool.and_eq_true,decide_eq_true_eq] at h
  exact ⟨t,y,u,rfl,h.1.1.1,h.1.1.2,h.1.2,h.2⟩
 |_=>simp [okOp] at h
theorem R_cells_one {v:V} {u:Value} (h:R C v u) (hv:v.val=true):∀ w∈u.cells.toList,w.oneCell'=true:=by
 intro w hw
 obtain ⟨c1,c2⟩:=R_cells h hv
 obtain ⟨j,hj⟩:=List.getElem?_of_mem hw
 have hlt:j < v.cells.length:=by rw [c1]; have:=(List.getElem?_eq_some_iff.1 hj).1; simpa using this
 obtain ⟨_,a2,_⟩:=c2 j _ (List.getElem?_eq_getElem hlt)
 rw [Array.getElem?_toList] at hj
 have e:u.cells.getD j undef=w:=by simp [Array.getD_eq_getD_getElem?,hj]
 rw [e] at a2; exact a2
theorem cells_of {cur:Array Value} {f:Nat->Nat} {cs:List V} (h:CellsR C cs (fun j=>cur[f j]?)) :
  ∀ (j:Nat) (c:V),cs[j]?=some c->cur[f j]?=some (cur.getD (f j) undef)/\(cur.getD (f j) undef).oneCell'=true/\R C c (cur.getD (f j) undef):=by
 intro j c hj
 obtain ⟨u,h1,h2,h3⟩:=h j c hj
 dsimp only at h1
 have e:cur.getD (f j) undef=u:=by simp [Array.getD_eq_getD_getElem?,h1]
 rw [e]
 exact ⟨h1,h2,h3⟩
theorem CellsR.mono {C':Ctx} (hc:Le C C') {cs:List V} {f:Nat->Option Value} (h:CellsR C cs f):CellsR C' cs f :=
 fun j c hj=>let ⟨u,h1,h2,h3⟩:=h j c hj; ⟨u,h1,h2,h3.mono hc⟩
theorem at2_set {rs:List (List V)} {i i' j:Nat} {row:List V} {c:V} (h:at2 (rs.set i row) i' j=some c):(i'=i/\i < rs.length/\row[j]?=some c)\/(i'≠i/\at2 rs i' j=some c):=by
 obtain ⟨h0,h2⟩:=at2_lt h
 have h1:i' < rs.length:=by simpa using h0
 by_cases e:i'=i
 ·subst e
  simp only [List.getElem_set_self] at h2
  exact .inl ⟨rfl,h1,h2⟩
 ·rw [List.getElem_set_ne (fun h=>e h.symm)] at h2
  exact .inr ⟨e,by unfold at2; rw [List.getElem?_eq_getElem h1]; exact h2⟩
theorem row_apart {i i' j s off k:Nat} (hne:i'≠i) (hj:j < s) (hk:off+k<=s):¬ (i * s+off<=i' * s+j/\i' * s+j < i * s+off+k):=by
 rintro ⟨h1,h2⟩
 rcases Nat.lt_or_gt_of_ne hne with h|h
 ·have:i' * s+s<=i * s:=by rw [<- Nat.succ_mul]; exact Nat.mul_le_mul_right _ h
  omega
 ·have:i * s+s<=i' * s:=by rw [<- Nat.succ_mul]; exact Nat.mul_le_mul_right _ h
  omega
theorem snd_store {k:Nat} {x v:X}:Snd P (.store k x v):=by
 intro E n C st a o d K next Q hinv hok hd h hn _
 obtain ⟨t,y,u,hop,hsz,hk0,hx,hv⟩:=okOp_store hok
 have hX:=hinv.ev hx
 have hV:=hinv.ev hv
 simp only [eff] at h
 obtain ⟨hval,hlen,h⟩:=h
 have hcv:=cellsR_val hV hval
 have huk:(a.eval u).cells.size=k:=by rw [<- (R_cells hV hval).1]; exact hlen
 have hu1:=R_cells_one hV hval
 split at h
 ·rename_i r off ex
  rw [ex] at hX
  split at h
  ·rename_i cs hh
   rw [<- hinv.heap] at hh
   obtain ⟨hoff,hK⟩:=h
   generalize hev:a.eval y=p at hX
   cases hX with
   |ptr _ _ cs' L g1 g2 =>
    rw [hh] at g1; cases g1
    have ho:=hinv.objs r
    unfold ObjOk at ho
    rw [hh] at ho
    obtain ⟨L',hl',⟨cur,e,g,hb,hc⟩,hw,hFG⟩:=ho
    rw [g2] at hl'; cases hl'
    have hfit:L.base+off+k<=cur.size:=by
     obtain ⟨q1,_,_⟩:=hc (cs.length - 1) _ (List.getElem?_eq_getElem (by omega))
     have:=(Array.getElem?_eq_some_iff.1 q1).1
     omega
    obtain ⟨sp1,sp2⟩:=splice_get (vs:=(a.eval u).cells.toList) (by simpa using huk) hfit
    have hrun:=run_storeAt hsz huk hu1 C.w hb hfit
    generalize (cur.toList.take (L.base+off) ++ (a.eval u).cells.toList ++ cur.toList.drop (L.base+off+k)).toArray=cur' at sp1 sp2 hrun
    have hlen':off+(v.ev st).cells.length<=cs.length:=by rw [hlen]; exact hoff
    have hset:=setR_spec hlen'
    have hI:=hinv.write (o':=.box (setR cs off (v.ev st).cells)) g2 (by rw [hh]; rfl) hb sp1 (fun j hj=>by
      rw [sp2] at hj
      split at hj
      ·rename_i hin
       have:=hw (j - L.base) (by omega)
       rw [show L.base+(j - L.base)=j by omega] at this
       exact this
      ·exact absurd rfl hj) (.inl ⟨cs,_,hh,rfl⟩) (fun hle=>by
      unfold ObjOk
      simp only [upd,if_true]
      refine ⟨L,g2,⟨cur',e,fun j=>cur'.getD (L.base+j) undef,setRow_heap _ _ _ _ _ _ hb,cells_of (f:=fun j=>L.base+j) ?_⟩,fun j hj=>hw j (by rw [<- hset.1]; exact hj),hFG⟩
      have h0:CellsR C cs (fun j=>cur[L.base+j]?):=fun j c hj=>⟨_,(hc j c hj).1,(hc j c hj).2⟩
      intro j c hj
      obtain ⟨w,e1,e2,e3⟩:=(h0.setR hcv hlen') j c hj
      refine ⟨w,?_,e2,e3.mono hle⟩
      dsimp only
      rw [sp2,<- e1,hlen]
      dsimp only
      by_cases hin:off<=j/\j < off+k
      ·rw [if_pos hin,if_pos (by omega),Array.getElem?_toList]
       congr 1; omega
      ·rw [if_neg hin,if_neg (by omega)])
    exact wp_skip' (w':=C.w.setRow L.blk cur') (by simp [execOp,hop,hev,hrun]) (hn _ _ _ (hI.put hd (.undef _)) hK)
  ·exact h.elim
 ·rename_i r i off ex
  rw [ex] at hX
  split at h
  ·rename_i s rs hh
   rw [<- hinv.heap] at hh
   obtain ⟨hcl,hoff,hK⟩:=h
   generalize hev:a.eval y=p at hX
   cases hX with
   |rptr _ _ _ s' rs' L g1 g2 g3 =>
    rw [hh] at g1; cases g1
    have ho:=hinv.objs r
    unfold ObjOk at ho
    rw [hh] at ho
    rcases ho with ⟨_,ho⟩|⟨L',hl',q0,q1,q2,q3,⟨cur,e,g,hb,hcs,hc⟩,hw,hG⟩
    ·rw [g2] at ho; cases ho
    rw [g2] at hl'; cases hl'
    have hrow:(rs.getD i []).length=s:=by
     have:rs.getD i []=rs[i]:=by simp [g3]
     rw [this]; exact q3 _ (List.getElem_mem g3)
    have hile:i * s+s<=L.cap * s:=by rw [<- Nat.succ_mul]; exact Nat.mul_le_mul_right _ (by omega)
    have hfit:i * s+off+k<=cur.size:=by omega
    obtain ⟨sp1,sp2⟩:=splice_get (vs:=(a.eval u).cells.toList) (by simpa using huk) hfit
    have hrun:=run_storeAt hsz huk hu1 C.w hb hfit
    generalize (cur.toList.take (i * s+off) ++ (a.eval u).cells.toList ++ cur.toList.drop (i * s+off+k)).toArray=cur' at sp1 sp2 hrun
    have hlen':off+(v.ev st).cells.length<=(rs.getD i []).length:=by rw [hlen,hrow]; exact hoff
    have hset:=setR_spec hlen'
    have hI := hinv.write (o':=.rows s (rs.set i (setR (rs.getD i []) off (v.ev st).cells))) g2 (by rw [hh]; rfl) hb sp1 (fun j _=>hw j) (.inr ⟨s,rs,_,hh,rfl,by simp⟩) (fun hle=>by
      unfold ObjOk
      simp only [upd,if_true]
      refine .inr ⟨L,g2,q0,by simpa using q1,q2,fun row hrow'=>?_,⟨cur',e,fun i' j=>cur'.getD (i' * s+j) undef,setRow_heap _ _ _ _ _ _ hb,sp1.trans hcs,fun i' j c hij=>?_⟩,hw,hG⟩
      ·rcases List.mem_or_eq_of_mem_set hrow' with h|h
       ·exact q3 _ h
       ·rw [h,hset.1,hrow]
      ·have main:∃ w,cur'[i' * s+j]?=some w/\w.oneCell'=true/\c.closed=true/\R C c w:=by
        rcases at2_set hij with ⟨rfl,_,hj⟩|⟨hne,hj⟩
        ·have h0:CellsR C (rs.getD i' []) (fun j=>cur[i' * s+j]?):=fun j c hj=>⟨_,(hc i' j c (at2_some g3 hj)).1,(hc i' j c (at2_some g3 hj)).2.1,(hc i' j c (at2_some g3 hj)).2.2.2⟩
         obtain ⟨w,e1,e2,e3⟩:=(h0.setR hcv hlen') j c hj
         refine ⟨w,?_,e2,?_,e3⟩
         ·rw [sp2,<- e1,hlen]
          dsimp only
          by_cases hin:off<=j/\j < off+k
          ·rw [if_pos hin,if_pos (by omega),Array.getElem?_toList]
           congr 1; omega
          ·rw [if_neg hin,if_neg (by omega)]
         ·rw [hset.2] at hj
          split at hj
          ·exact closedL_all hcl _ _ hj
          ·exact (hc i' j c (at2_some g3 hj)).2.2.1
        ·obtain ⟨w1,w2,w3,w4⟩:=hc i' j c hj
         refine ⟨_,?_,w2,w3,w4⟩
         rw [sp2,if_neg (row_apart hne ?_ hoff)]
         ·exact w1
         ·obtain ⟨hi',hj'⟩:=at2_lt hj
          rw [<- q3 _ (List.getElem_mem hi')]
          exact (List.getElem?_eq_some_iff.1 hj').1
       obtain ⟨w,m1,m2,m3,m4⟩:=main
       have ee:cur'.getD (i' * s+j) undef=w:=by
        rw [Array.getD_eq_getD_getElem?,m1]; rfl
       dsimp only
       rw [ee]
       exact ⟨m1,m2,m3,m4.mono hle⟩)
    exact wp_skip' (w':=C.w.setRow L.blk cur') (by simp [execOp,hop,hev,hrun]) (hn _ _ _ (hI.put hd (.undef _)) hK)
  ·exact h.elim
 ·exact h.elim
end Go.Ab

namespace Go.Ab
open Go
variable {E:Ent} {n:Sz} {C:Ctx} {st:St} {a:Act} {P:Program}
structure Free (E:Ent) (C:Ctx) (b:Nat):Prop where
 F:∀ off,¬ C.F b off
 G:C.G b
 W:∀ off,E.w0.heap.size<=b\/E.Wr b off
 obj:∀ r L,C.loc r=some L->(C.heap r).isDead=false->L.blk≠b
structure OwnAt (C:Ctx) (b cap s:Nat) (rows:List (List V)):Prop where
 le:rows.length<=cap
 max:cap<=maxLen
 width:∀ r∈rows,r.length=s
 cells:∃ (cur:Array Value) (e:TypeId) (g:Nat->Nat->Value),C.w.heap[b]?=some (.cells cur e (0,0))/\cur.size=cap * s /\
  ∀ i j c,at2 rows i j=some c->cur[i * s+j]?=some (g i j)/\(g i j).oneCell'=true/\c.closed=true/\R C c (g i j)
theorem OwnAt.mono {C':Ctx} {b cap s:Nat} {rows:List (List V)} (h:OwnAt C b cap s rows) (hc:Le C C') (hb:C'.w.heap[b]?=C.w.heap[b]?):OwnAt C' b cap s rows:=by
 obtain ⟨cur,e,g,h1,h2,h3⟩:=h.cells
 exact ⟨h.le,h.max,h.width,cur,e,g,hb.trans h1,h2,fun i j c hij=>⟨(h3 i j c hij).1,(h3 i j c hij).2.1,(h3 i j c hij).2.2.1,(h3 i j c hij).2.2.2.mono hc⟩⟩
theorem OwnR_iff {s:Nat} {rows:List (List V)} {u:Value}:OwnR C s rows u↔(rows=[]/\(u=.slice none 0 0\/∃ b off,u=.slice (some ⟨b,off,none⟩) 0 0))\/∃ b cap,u=.slice (some ⟨b,0,none⟩) rows.length cap/\0 < cap/\OwnAt C b cap s rows:=by
 unfold OwnR
 constructor
 ·rintro (⟨h,h'⟩|⟨h,h'⟩|⟨b,cap,cur,e,g,h1,h0,h2,h3,h4,h5,h6,h7⟩)
  ·exact .inl ⟨h,.inl h'⟩
  ·exact .inl ⟨h,.inr h'⟩
  ·exact .inr ⟨b,cap,h1,h0,h2,h3,h6,cur,e,g,h4,h5,h7⟩
 ·rintro (⟨h,h'|h'⟩|⟨b,cap,h1,h0,⟨h2,h3,h6,cur,e,g,h4,h5,h7⟩⟩)
  ·exact .inl ⟨h,h'⟩
  ·exact .inr (.inl ⟨h,h'⟩)
  ·exact .inr (.inr ⟨b,cap,cur,e,g,h1,h0,h2,h3,h4,h5,h6,h7⟩)
theorem Free.mono {C':Ctx} {b:Nat} (h:Free E C b) (hF:∀ off,C'.F b off->C.F b off) (hG:C.G b->C'.G b) (ho:∀ r L,C'.loc r=some L->(C'.heap r).isDead=false->L.blk=b->C.loc r=some L/\(C.heap r).isDead=false):Free E C' b :=
 ⟨fun off hf=>h.F off (hF off hf),hG h.G,h.W,fun r L h1 h2 h3=>by obtain ⟨h4,h5⟩:=ho r L h1 h2 h3; exact h.obj r L h4 h5 h3⟩
theorem Inv.freeze (h:Inv E n C st a) {b:Nat} (hb:b < C.w.heap.size) (hf:Free E C b):Inv E n { C with F:=fun b' off=>C.F b' off\/b'=b } st a/\Le C { C with F:=fun b' off=>C.F b' off\/b'=b }:=by
 have hc:Le C { C with F:=fun b' off=>C.F b' off\/b'=b }:=⟨fun b off hf=>⟨.inl hf,rfl⟩,fun _ h=>h,fun _ cs _ h=>⟨⟨cs,h⟩,rfl⟩,fun _ _ rs _ h=>⟨⟨rs,h,rfl⟩,rfl⟩,fun _ ks vs _ h=>⟨⟨ks,vs,h⟩,rfl⟩⟩
 have hh:Hist E { C with F:=fun b' off=>C.F b' off\/b'=b } a:=h.hist hc.F fun _ _ _ hb'=>hb'
 exact ⟨{
  heap:=h.heap,env:=fun t=>(h.env t).mono hc
  objs:=fun r=>(h.objs r).mono hc ⟨fun b' _ _ hF _=>⟨rfl,rfl,fun off hx=>hx.resolve_right fun e=>hf.F 0 (e ▸ hF)⟩⟩ rfl rfl fun L hl ha=>⟨rfl,fun off hx=>hx.resolve_right (hf.obj r L hl ha),fun h=>h⟩
  inj:=h.inj
  fin:=fun b' off hx=>by
   rcases hx with hx|rfl
   ·exact h.fin b' off hx
   ·exact hb
  gnew:=h.gnew,gsub:=h.gsub,par:=h.par
  fnew:=fun b' off hx=>by
   rcases hx with hx|rfl
   ·exact h.fnew b' off hx
   ·exact .inr hf.G
  frame:=h.frame,marks:=hh.marks,mnd:=hh.mnd,fkeep:=hh.fkeep,stay:=hh.stay,wsz:=hh.wsz,mball:=h.mball,size:=h.size },hc⟩
theorem Inv.takeObj (h:Inv E n C st a) {b cap s:Nat} {rows:List (List V)} (hf:Free E C b) (ho:OwnAt C b cap s rows) {r:Nat} (hr:(st.heap r).isDead=true) :
  ∃
   C',Inv E n C' (st.set r (.rows s rows)) a/\C'.w=C.w/\R C' (.sref r 0 rows.length) (.slice (some ⟨b,0,none⟩) rows.length cap)/\Le C C' /\
   C'.heap=upd C.heap r (.rows s rows)/\C'.loc=upd C.loc r (some ⟨b,0,cap⟩)/\C'.F=C.F/\C'.G=C.G:=by
 have l2:=h.le_obj hr (.rows s rows) (some ⟨b,0,cap⟩)
 obtain ⟨cur,e,g,hcur,hsz,hcell⟩:=ho.cells
 refine ⟨{ C with heap:=upd C.heap r (.rows s rows),loc:=upd C.loc r (some ⟨b,0,cap⟩) },h.obj hr ?_ ?_,rfl,?_,l2,rfl,rfl,rfl,rfl⟩
 ·unfold ObjOk
  simp only [upd,if_true]
  exact .inr ⟨_,rfl,rfl,ho.le,ho.max,ho.width,⟨cur,e,g,hcur,hsz,fun i j c hij=>⟨(hcell i j c hij).1,(hcell i j c hij).2.1,(hcell i j c hij).2.2.1,(hcell i j c hij).2.2.2.mono l2⟩⟩,fun off=>⟨hf.F off,hf.W off⟩,hf.G⟩
 ·rintro L' hL' r' L'' _ hl ha
  cases hL'
  exact hf.obj r' L'' hl ha
 ·have:R { C with heap:=upd C.heap r (.rows s rows),loc:=upd C.loc r (some ⟨b,0,cap⟩) } (.sref r 0 rows.length) (.slice (some ⟨b,0 * s,none⟩) rows.length (cap - 0)) :=
   .sref r 0 rows.length s rows ⟨b,0,cap⟩ (by simp [upd]) (by simp [upd]) (by omega)
  simpa using this
theorem Inv.takeVal (h:Inv E n C st a) {b cap s:Nat} {rows:List (List V)} (hf:Free E C b) (ho:OwnAt C b cap s rows) :
  ∃ C',Inv E n C' st a/\C'.w=C.w/\R C' (.sl true s rows) (.slice (some ⟨b,0,none⟩) rows.length cap)/\Le C C'/\C'.heap=C.heap/\C'.loc=C.loc/\(∀ b' off,C'.F b' off↔C.F b' off\/b'=b)/\C'.G=C.G:=by
 obtain ⟨cur,e,g,hcur,hsz,hcell⟩:=ho.cells
 obtain ⟨h1,h2⟩:=h.freeze (block_lt hcur) hf
 refine ⟨_,h1,rfl,?_,h2,rfl,rfl,fun _ _=>Iff.rfl,rfl⟩
 refine .sl true s rows b 0 cap g ho.le ho.max ho.width (fun _ _=>hf.G) (fun i j c hij=>?_) (fun i j c hij=>(hcell i j c hij).2.2.1) (fun i j c hij=>(hcell i j c hij).2.2.2.mono h2)
 obtain ⟨a1,a2,_,_⟩:=hcell i j c hij
 refine ⟨?_,.inr rfl,a2⟩
 simp only [Nat.zero_add]
 rw [cell_of_row _ _ _ _ _ _ hcur]
 exact a1
theorem Inv.take (h:Inv E n C st a) {b cap s:Nat} {rows:List (List V)} (hf:Free E C b) (ho:OwnAt C b cap s rows) {mode d:Option Nat} {K:St->Prop} (hk:newSl s rows mode d st K) :
  ∃ C' st' v,Inv E n C' st' a/\C'.w=C.w/\R C' v (.slice (some ⟨b,0,none⟩) rows.length cap)/\K (st'.put d v):=by
 cases mode with
 |none =>
  obtain ⟨C',h1,h2,h3,_⟩:=h.takeVal hf ho
  exact ⟨C',st,_,h1,h2,h3,hk⟩
 |some r =>
  obtain ⟨h0,hk⟩:=hk
  obtain ⟨C',h1,h2,h3,_⟩:=h.takeObj hf ho h0
  exact ⟨C',_,_,h1,h2,h3,hk⟩
theorem Inv.mapNew (h:Inv E n C st a) {b:Nat} (hf:Free E C b) {es:Array MapEntry} {clock:Nat} (hb:C.w.heap[b]?=some (.map es clock)):E.w0.heap.size<=b:=by
 rcases hf.W 0 with h1|h1
 ·exact h1
 ·rcases Nat.lt_or_ge b E.w0.heap.size with h2|h2
  ·exfalso
   have h3:=h.frame.same b h2
   have h4:=E.wr b 0 h1
   rw [hb] at h3
   cases ho:E.w0.heap[b]? with
   |none=>rw [ho] at h3; simp [sameBut] at h3
   |some o =>
    rw [ho] at h3
    cases o with
    |map es' clock'=>exact h4 _ _ ho
    |_=>simp [sameBut] at h3
  ·exact h2
theorem Inv.takeMap (h:Inv E n C st a) {b clock:Nat} {ents:Array MapEntry} {ks vs:List V} (hf:Free E C b) (hb:C.w.heap[b]?=some (.map ents clock)) (h1:ks.length=ents.size) (h2:vs.length=ents.size)
  (h3:∀ (j:Nat) k,ks[j]?=some k->k.keyOk=true/\∃ e,ents[j]?=some e/\R C k e.key) (h4:∀ (j:Nat) v,vs[j]?=some v->v.closed=true/\∃ e,ents[j]?=some e/\R C v e.val) {r:Nat} (hr:(st.heap r).isDead=true) (hmb:E.Mb b) :
  ∃
   C',Inv E n C' (st.set r (.mp ks vs)) a/\C'.w=C.w/\R C' (.mp r) (.map (some b))/\Le C C' /\
   C'.heap=upd C.heap r (.mp ks vs)/\C'.loc=upd C.loc r (some ⟨b,0,0⟩)/\C'.F=C.F/\C'.G=C.G:=by
 have l2:=h.le_obj hr (.mp ks vs) (some ⟨b,0,0⟩)
 refine ⟨{ C with heap:=upd C.heap r (.mp ks vs),loc:=upd C.loc r (some ⟨b,0,0⟩) },h.obj hr ?_ ?_,rfl,.mp r ks vs ⟨b,0,0⟩ (by simp [upd]) (by simp [upd]),l2,rfl,rfl,rfl,rfl⟩
 ·unfold ObjOk
  simp only [upd,if_true]
  refine ⟨_,rfl,⟨clock,ents,hb,h1,h2,fun j k hj=>?_,fun j v hj=>?_⟩,h.mapNew hf hb,hf.F,hmb⟩
  ·obtain ⟨a1,e,a2,a3⟩:=h3 j k hj
   exact ⟨a1,e,a2,a3.mono l2⟩
  ·obtain ⟨a1,e,a2,a3⟩:=h4 j v hj
   exact ⟨e,a2,by rw [EntOk.other fun s rows e=>by subst e; simp [V.closed] at a1]; exact ⟨a1,a3.mono l2⟩⟩
 ·rintro L' hL' r' L'' _ hl ha
  cases hL'
  exact hf.obj r' L'' hl ha
theorem RB1_own {s:Nat} {rows:List (List V)} {u:Value}:RB1 C (.own s rows) u=OwnR C s rows u:=rfl
theorem RB1_other {c:V} {u:Value} (h:∀ s rows,c≠.own s rows) (h':∀ ks vs,c≠.ownm ks vs):RB1 C c u=R C c u:=by
 unfold RB1; split <;> first|exact absurd rfl (h _ _)|exact absurd rfl (h' _ _)|rfl
theorem MapR.mono {C':Ctx} (hc:Le C C') {ks vs:List V} {u:Value} (hw:∀ (b:Nat) (es:Array MapEntry) (clock:Nat),C.w.heap[b]?=some (.map es clock)->C'.w.heap[b]?=some (.map es clock)) (h:MapR C ks vs u):MapR C' ks vs u:=by
 obtain ⟨b,clock,ents,h1,h2,h3,h4,h5,h6⟩:=h
 refine ⟨b,clock,ents,h1,hw _ _ _ h2,h3,h4,fun j k hj=>?_,fun j v hj=>?_⟩
 ·obtain ⟨a1,e,a2,a3⟩:=h5 j k hj
  exact ⟨a1,e,a2,a3.mono hc⟩
 ·obtain ⟨a1,e,a2,a3⟩:=h6 j v hj
  exact ⟨a1,e,a2,a3.mono hc⟩
theorem RB1_mono {C':Ctx} (hc:Le C C') (hw:C'.w=C.w) {c:V} {u:Value} (h:RB1 C c u):RB1 C' c u:=by
 by_cases hcc:∃ s rows,c=.own s rows
 ·obtain ⟨s,rows,rfl⟩:=hcc
  rw [RB1_own,OwnR_iff] at h ⊢
  rcases h with h|⟨b,cap,h1,h2⟩
  ·exact .inl h
  ·exact .inr ⟨b,cap,h1,h2.1,h2.2.mono hc (by rw [hw])⟩
 ·have hne:∀ s rows,c≠.own s rows:=fun s rows e=>hcc ⟨s,rows,e⟩
  by_cases hm:∃ ks vs,c=.ownm ks vs
  ·obtain ⟨ks,vs,rfl⟩:=hm
   exact MapR.mono hc (fun _ _ _ hb=>by rw [hw]; exact hb) h
  ·have hm':∀ ks vs,c≠.ownm ks vs:=fun ks vs e=>hm ⟨ks,vs,e⟩
   rw [RB1_other hne hm'] at h ⊢
   exact h.mono hc
structure Thawed (E:Ent) (n:Sz) (C:Ctx) (st:St) (a:Act) (os:List Nat) (ns:List Nat) (x:List Nat×List (Nat×AO)) (C':Ctx):Prop where
 inv:Inv E n C' (st.sets x.2) a
 w:C'.w=C.w
 le:Le C C'
 free:∀ b,Free E C b->b∉os->Free E C' b
 sub:x.1.Sublist ns
 dead:∀ r∈x.1,((st.sets x.2).heap r).isDead=true
 other:∀ r,r∉ns->(st.sets x.2).heap r=st.heap r
 F:∀ b off,b∉os->C'.F b off->C.F b off
 G:C'.G=C.G
 obj:∀ r L,C'.loc r=some L->(C'.heap r).isDead=false->(C.loc r=some L/\(C.heap r).isDead=false)\/L.blk∈os
theorem thawC_sound (h:Inv E n C st a) {c:V} {u:Value} {ns:List Nat} (hR:RB1 C c u) (hown:∀ b∈owns1 c u,Free E C b) (hns:ns.Nodup) (hdead:∀ r∈ns,(st.heap r).isDead=true) (hmb:(∃ ks vs,c=.ownm ks vs)->ns≠[]->∀ b,E.Mb b) :
  ∃ C',Thawed E n C st a (owns1 c u) ns ((thawC c ns).2) C'/\R C' (thawC c ns).1 u:=by
 by_cases hc:∃ s rows,c=.own s rows
 ·obtain ⟨s,rows,rfl⟩:=hc
  simp only [RB1,OwnR_iff] at hR
  cases ns with
  |nil =>
   rcases hR with ⟨rfl,hu⟩|⟨b,cap,rfl,hc0,ho⟩
   ·refine ⟨C,⟨h,rfl,h.le_grow (Ext.refl _) (fun _ _ h=>h),fun b hb _=>hb,List.Sublist.refl _,fun r hr=>by simp [thawC] at hr,fun r _=>rfl,fun _ _ _ h=>h,rfl,fun _ _ h1 h2=>.inl ⟨h1,h2⟩⟩,?_⟩
    rcases hu with rfl|⟨b,off,rfl⟩
    ·exact .slNil true s
    ·exact .sl true s [] b off 0 (fun _ _=>undef) (by simp) (by simp [maxLen]) (by simp) (by simp) (fun i j c hij=>by simp [at2] at hij) (fun i j c hij=>by simp [at2] at hij) (fun i j c hij=>by simp [at2] at hij)
   ·have hc0':cap≠0:=by omega
    have hf:=hown b (by simp [owns1,hc0'])
    obtain ⟨C',h1,h2,h3,h4,h5,h6,h7,h8⟩:=h.takeVal hf ho
    refine ⟨C',⟨h1,h2,h4,fun b' hb' hne=>?_,List.Sublist.refl _,fun r hr=>by simp [thawC] at hr,fun r _=>rfl,fun b' off hne hx=>((h7 b' off).1 hx).resolve_right (fun e=>hne (by simp [owns1,e,hc0'])),h8,fun r L q1 q2=>.inl (by rw [h6] at q1; rw [h5] at q2; exact ⟨q1,q2⟩)⟩,h3⟩
    have hne':b'≠b:=fun e=>hne (by simp [owns1,e,hc0'])
    exact hb'.mono (fun off hx=>((h7 b' off).1 hx).resolve_right hne') (fun h=>by rw [h8]; exact h) (fun r L q1 q2 _=>by rw [h6] at q1; rw [h5] at q2; exact ⟨q1,q2⟩)
  |cons r ns =>
   have hr:=hdead r (by simp)
   have hnr:r∉ns:=(List.nodup_cons.1 hns).1
   have dd:∀ r'∈ns,((st.set r (.rows s rows)).heap r').isDead=true:=fun r' hr'=>by
    have:r'≠r:=fun e=>hnr (e ▸ hr')
    simp only [St.set,upd,this,if_false]
    exact hdead r' (by simp [hr'])
   rcases hR with ⟨rfl,hu⟩|⟨b,cap,rfl,hc0,ho⟩
   ·refine ⟨{ C with heap:=upd C.heap r (.rows s []),loc:=upd C.loc r none },⟨h.obj hr (by unfold ObjOk; simp [upd]) (fun L' hL'=>by cases hL'),rfl,h.le_obj hr _ _,fun b' hb' _=>?_,List.sublist_cons_self _ _,dd,fun r' hr'=>?_,fun _ _ _ h=>h,rfl,fun r' L q1 q2=>?_⟩,?_⟩
    ·refine hb'.mono (fun _ h=>h) (fun h=>h) fun r' L q1 q2 _=>?_
     by_cases e:r'=r
     ·simp [upd,e] at q1
     ·simp only [upd,e,if_false] at q1 q2; exact ⟨q1,q2⟩
    ·have:r'≠r:=fun e=>hr' (by simp [e])
     simp [thawC,St.sets,St.set,upd,this]
    ·by_cases e:r'=r
     ·simp [upd,e] at q1
     ·simp only [upd,e,if_false] at q1 q2; exact .inl ⟨q1,q2⟩
    ·rcases hu with rfl|⟨b,off,rfl⟩
     ·exact .srefNil r s (by simp [upd]) (by simp [upd])
     ·exact .srefZ r 0 s [] b off (by simp [upd]) (Nat.le_refl _)
   ·have hc0':cap≠0:=by omega
    have hf:=hown b (by simp [owns1,hc0'])
    obtain ⟨C',h1,h2,h3,h4,h5,h6,h7,h8⟩:=h.takeObj hf ho hr
    refine ⟨C',⟨h1,h2,h4,fun b' hb' hne=>?_,List.sublist_cons_self _ _,dd,fun r' hr'=>?_,fun b' off _ hx=>by rw [h7] at hx; exact hx,h8,fun r' L q1 q2=>?_⟩,h3⟩
    ·have hne':b'≠b:=fun e=>hne (by simp [owns1,e,hc0'])
     refine hb'.mono (fun off hx=>by rw [h7] at hx; exact hx) (fun h=>by rw [h8]; exact h) fun r' L q1 q2 q3=>?_
     by_cases e:r'=r
     ·rw [h6] at q1
      simp only [upd,e,if_true,Option.some.injEq] at q1
      subst q1
      exact absurd q3.symm hne'
     ·rw [h6] at q1; rw [h5] at q2
      simp only [upd,e,if_false] at q1 q2; exact ⟨q1,q2⟩
    ·have:r'≠r:=fun e=>hr' (by simp [e])
     simp [thawC,St.sets,St.set,upd,this]
    ·by_cases e:r'=r
     ·rw [h6] at q1
      simp only [upd,e,if_true,Option.some.injEq] at q1
      subst q1
      exact .inr (by simp [owns1,hc0'])
     ·rw [h6] at q1; rw [h5] at q2
      simp only [upd,e,if_false] at q1 q2; exact .inl ⟨q1,q2⟩
 ·have hc':∀ s rows,c≠.own s rows:=fun s rows e=>hc ⟨s,rows,e⟩
  by_cases hm:∃ ks vs,c=.ownm ks vs
  ·obtain ⟨ks,vs,rfl⟩:=hm
   obtain ⟨b,clock,ents,rfl,h2,h3,h4,h5,h6⟩:=hR
   cases ns with
   |nil=>exact ⟨C,⟨h,rfl,h.le_grow (Ext.refl _) (fun _ _ h=>h),fun b hb _=>hb,List.Sublist.refl _,fun r hr=>by simp [thawC] at hr,fun r _=>rfl,fun _ _ _ h=>h,rfl,fun _ _ h1 h2=>.inl ⟨h1,h2⟩⟩,.undef _⟩
   |cons r ns =>
    have hr:=hdead r (by simp)
    have hnr:r∉ns:=(List.nodup_cons.1 hns).1
    have hf:=hown b (by simp [owns1])
    obtain ⟨C',g1,g2,g3,g4,g5,g6,g7,g8⟩:=h.takeMap hf h2 h3 h4 h5 h6 hr (hmb ⟨_,_,rfl⟩ (by simp) b)
    refine ⟨C',⟨g1,g2,g4,fun b' hb' hne=>?_,List.sublist_cons_self _ _,fun r' hr'=>?_,fun r' hr'=>?_,fun b' off _ hx=>by rw [g7] at hx; exact hx,g8,fun r' L q1 q2=>?_⟩,g3⟩
    ·have hne':b'≠b:=fun e=>hne (by simp [owns1,e])
     refine hb'.mono (fun off hx=>by rw [g7] at hx; exact hx) (fun hx=>by rw [g8]; exact hx) fun r' L q1 q2 q3=>?_
     by_cases e:r'=r
     ·rw [g6] at q1
      simp only [upd,e,if_true,Option.some.injEq] at q1
      subst q1
      exact absurd q3 fun e=>hne' e.symm
     ·rw [g6] at q1; rw [g5] at q2
      simp only [upd,e,if_false] at q1 q2; exact ⟨q1,q2⟩
    ·have:r'≠r:=fun e=>hnr (e ▸ hr')
     simp only [thawC,St.sets,St.set,upd,this,if_false]
     exact hdead r' (by simp at hr' ⊢; exact .inr hr')
    ·have:r'≠r:=fun e=>hr' (by simp [e])
     simp [thawC,St.sets,St.set,upd,this]
    ·by_cases e:r'=r
     ·rw [g6] at q1
      simp only [upd,e,if_true,Option.some.injEq] at q1
      subst q1
      exact .inr (by simp [owns1])
     ·rw [g6] at q1; rw [g5] at q2
      simp only [upd,e,if_false] at q1 q2; exact .inl ⟨q1,q2⟩
  have hm':∀ ks vs,c≠.ownm ks vs:=fun ks vs e=>hm ⟨ks,vs,e⟩
  have e1:thawC c ns=(c,ns,[]):=by unfold thawC; split <;> first|exact absurd rfl (hc' _ _)|exact absurd rfl (hm' _ _)|rfl
  rw [RB1_other hc' hm'] at hR
  rw [e1]
  exact ⟨C,⟨h,rfl,h.le_grow (Ext.refl _) (fun _ _ h=>h),fun b hb _=>hb,List.Sublist.refl _,fun r hr=>hdead r hr,fun r _=>rfl,fun _ _ _ h=>h,rfl,fun _ _ h1 h2=>.inl ⟨h1,h2⟩⟩,hR⟩
end Go.Ab
