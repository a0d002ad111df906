/-
  A result may be read as one reads it: inner slices by value, and not new.
  Arguments: what a claim's row reads of an argument is what an abstract value of the argument's shape says.
-/
import Derived.OpenShut
import Derived.SizedLaws
import Derived.Test.YtkanpbjjabdalaaK1
import Derived.Test.YtkanpbjjabdalaaK7
set_option linter.all false
namespace Go.Ab
open Go
variable {C:Ctx}
theorem RB1_sh {v:V} {u:Value} (h:RB1 C v u):RB1 C v.sh u:=RB1_shG h C.G
theorem sh_agg {v:V} (h:∀ cs,v≠.agg cs):∀ cs,v.sh≠.agg cs:=fun cs e=>by
  cases v <;> simp only [V.sh] at e <;> first|exact h _ rfl|cases e
theorem sh_tup {v:V} (h:∀ cs,v≠.tup cs):∀ cs,v.sh≠.tup cs:=fun cs e=>by
  cases v <;> simp only [V.sh] at e <;> first|exact h _ rfl|cases e
theorem RB2_sh {v:V} {u:Value} (h:RB2 C v u):RB2 C v.sh u:=by
  by_cases hv:∃ cs,v=.agg cs
  · obtain ⟨cs,rfl⟩:=hv
    obtain ⟨us,rfl,h1,h2,h3⟩:=h
    refine ⟨us,rfl,by rw [shL_len]; exact h1,h2,fun j c hj=>?_⟩
    rw [shL_get,Option.map_eq_some_iff] at hj
    obtain ⟨c',q,rfl⟩:=hj
    exact RB1_sh (h3 j c' q)
  · have hne:∀ cs,v≠.agg cs:=fun cs e=>hv ⟨cs,e⟩
    rw [RB2_other hne] at h
    rw [RB2_other (sh_agg hne)]
    exact RB1_sh h
theorem RB_other {v:V} {u:Value} (h:∀ cs,v≠.tup cs):RB C v u=RB2 C v u:=by
  cases v <;> first|rfl|exact absurd rfl (h _)
theorem RB_sh {v:V} {u:Value} (h:RB C v u):RB C v.sh u:=by
  by_cases hv:∃ cs,v=.tup cs
  · obtain ⟨cs,rfl⟩:=hv
    obtain ⟨us,rfl,h1,h3⟩:=h
    refine ⟨us,rfl,by rw [shL_len]; exact h1,fun j c hj=>?_⟩
    rw [shL_get,Option.map_eq_some_iff] at hj
    obtain ⟨c',q,rfl⟩:=hj
    exact RB2_sh (h3 j c' q)
  · have hne:∀ cs,v≠.tup cs:=fun cs e=>hv ⟨cs,e⟩
    rw [RB_other hne] at h
    rw [RB_other (sh_tup hne)]
    exact RB2_sh h
theorem ownsL_sh:∀ (cs:List V) (us:List Value),ownsL (V.shL cs) us=ownsL cs us
  | [],_=>rfl
  | _::_,[]=>rfl
  | c::cs,u::us=>by simp only [V.shL,ownsL,owns1_sh,ownsL_sh cs us]
theorem owns2_sh (v:V) (u:Value):owns2 v.sh u=owns2 v u:=by
  by_cases hv:∃ cs,v=.agg cs
  · obtain ⟨cs,rfl⟩:=hv
    have e:∀ w,(∀ us,w≠.agg us)→owns2 (V.agg cs).sh w=owns2 (.agg cs) w:=fun w hw=>by cases w <;> first|rfl|exact absurd rfl (hw _)
    by_cases hu:∃ us,u=.agg us
    · obtain ⟨us,rfl⟩:=hu; exact ownsL_sh cs _
    · exact e u fun us q=>hu ⟨us,q⟩
  · have hne:∀ cs,v≠.agg cs:=fun cs e=>hv ⟨cs,e⟩
    rw [owns2_other hne,owns2_other (sh_agg hne),owns1_sh]
theorem ownsT2_sh:∀ (cs:List V) (us:List Value),ownsT2 (V.shL cs) us=ownsT2 cs us
  | [],_=>rfl
  | _::_,[]=>rfl
  | c::cs,u::us=>by simp only [V.shL,ownsT2,owns2_sh,ownsT2_sh cs us]
theorem ownsR_sh (v:V) (u:Value):ownsR v.sh u=ownsR v u:=by
  by_cases hv:∃ cs,v=.tup cs
  · obtain ⟨cs,rfl⟩:=hv
    have e:∀ w,(∀ us,w≠.tuple us)→ownsR (V.tup cs).sh w=ownsR (.tup cs) w:=fun w hw=>by cases w <;> first|rfl|exact absurd rfl (hw _)
    by_cases hu:∃ us,u=.tuple us
    · obtain ⟨us,rfl⟩:=hu; exact ownsT2_sh cs _
    · exact e u fun us q=>hu ⟨us,q⟩
  · have hne:∀ cs,v≠.tup cs:=fun cs e=>hv ⟨cs,e⟩
    have e1:ownsR v u=owns2 v u:=by cases v <;> first|rfl|exact absurd rfl (hne _)
    have e2:ownsR v.sh u=owns2 v.sh u:=by
      have:=sh_tup hne
      generalize v.sh=w at this
      cases w <;> first|rfl|exact absurd rfl (this _)
    rw [e1,e2,owns2_sh]
theorem CallsV.asRead {P:Program} {f:FuncId} {args:List V} {res:V} {outs:List V} {fr:Bool} (h:CallsV P f args res outs fr):CallsV P f args res.sh outs false:=by
  intro w F G vs hl hR hn h1 h2 h3 h4
  refine (h w F G vs hl hR hn h1 h2 h3 h4).mono ?_
  rintro e w' ⟨v,Fr,rfl,hp⟩
  refine ⟨v,Fr,rfl,?_⟩
  have hle:Le (bare w' (fun b off=>(fr=false∧F b off)∨Fr b off) G) (bare w' (fun b off=>(false=false∧F b off)∨Fr b off) G) :=
    ⟨fun b off hf=>⟨hf.elim (fun q=>.inl ⟨rfl,q.2⟩) .inr,rfl⟩,fun _ hg=>hg,fun _ _ _ e=>(by cases e),fun _ _ _ _ e=>(by cases e),fun _ _ _ _ e=>(by cases e)⟩
  exact { hp with
    rres:=RB_sh (RB_mono hle rfl hp.rres)
    nodup:=by rw [ownsR_sh]; exact hp.nodup
    own:=by rw [ownsR_sh]; exact hp.own }
end Go.Ab

namespace Go.Ab
open Go Go.ChangeShapes
def Typed (P:Program) (B:Nat):Nat→TypeId→List V→Prop
  | 0,_,_=>False
  | d+1,t,vs=>match P.underlying t with
    | some .bool=>∃ b,vs=[.bool b]
    | some (.int k)=>∃ n,(Lit.int k n).wf=true∧vs=[.int k n]
    | some .string=>∃ s:ByteArray,s.size≤maxLen∧vs=[.str s]
    | some (.slice e)=>∃ rows:List (List V),rows.length≤maxLen∧rows.length * P.bytesOf e≤B∧(∀ r∈rows,r.length=P.cellsOf e∧Typed P B d e r)∧vs=[.sl false (P.cellsOf e) rows]
    | some (.struct fs)=>vs.length=P.cellsOf t∧∀ f∈fs.toList,Typed P B d f.type ((vs.drop f.offset).take (P.cellsOf f.type))
    | some (.array n e)=>vs.length=P.cellsOf t∧∀ i,i < n→Typed P B d e ((vs.drop (i * P.cellsOf e)).take (P.cellsOf e))
    | _=>False
def tiles (P:Program):List Field→Nat→Nat→Bool
  | [],off,total=>off == total
  | f::fs,off,total=>f.offset == off&&tiles P fs (off+P.cellsOf f.type) total
def tyOk (P:Program):Nat→TypeId→Bool
  | 0,_=>false
  | d+1,t=>match P.underlying t with
    | some .bool|some (.int _)|some .string=>P.cellsOf t == 1
    | some (.slice e)=>P.cellsOf t == 1&&tyOk P d e&&decide (0 < P.cellsOf e)
    | some (.struct fs)=>tiles P fs.toList 0 (P.cellsOf t)&&fs.toList.all fun f=>tyOk P d f.type
    | some (.array n e)=>n * P.cellsOf e == P.cellsOf t&&tyOk P d e
    | _=>false
def Good (C:Ctx) (cs:List Value) (j:Nat) (c:V):Prop:=∃ u,cs[j]?=some u∧u.oneCell'=true∧c.closed=true∧R C c u
theorem Good.seg {C:Ctx} {cs:List Value} {off n j:Nat} {c:V} (h:Good C ((cs.drop off).take n) j c):Good C cs (off+j) c:=by
  obtain ⟨u,h1,h2⟩:=h
  rw [List.getElem?_take] at h1
  split at h1
  · rw [List.getElem?_drop] at h1; exact ⟨u,h1,h2⟩
  · cases h1
section
variable {B:Nat} {H:Type} {enc:TypeId×Value→H} {P:Program} {W:World} {held:Bool} {F:Nat→Nat→Prop} {G:Nat→Prop}
theorem weights_all {ds:List (DataW H)} {e:TypeId} {d:DataW H} (h:d∈ds):∀ w∈d.weights P e,w∈DataW.weightsAll P e ds:=by
  induction ds with
  | nil=>cases h
  | cons x l ih =>
    intro w hw
    simp only [DataW.weightsAll,List.mem_append]
    rcases List.mem_cons.1 h with rfl|h
    · exact .inl hw
    · exact .inr (ih h w hw)
theorem fields_typed {d fuel:Nat} {cs:List Value} (ih:∀ (t:TypeId) (cs:List Value) (x:DataW H×List MemPlace),tyOk P d t=true→DataW.trod enc P W 0 (fun _=>true) held fuel t cs=some x→(∀ w∈x.1.weights P t,w≤B) →
      ∃ vs:List V,vs.length=P.cellsOf t∧Typed P B d t vs∧∀ j c,vs[j]?=some c→Good (bare W F G) cs j c) :
    ∀ (fs:List Field) (off total:Nat),tiles P fs off total=true→(∀ f∈fs,tyOk P d f.type=true∧∃ x,DataW.trod enc P W 0 (fun _=>true) held fuel f.type ((cs.drop f.offset).take (P.cellsOf f.type))=some x∧∀ w∈x.1.weights P f.type,w≤B) →
      off≤total∧∃ vs:List V,vs.length=total - off∧(∀ f∈fs,off≤f.offset∧Typed P B d f.type ((vs.drop (f.offset - off)).take (P.cellsOf f.type)))∧∀ j c,vs[j]?=some c→Good (bare W F G) cs (off+j) c
  | [],off,total,ht,_=>by
    simp only [tiles,beq_iff_eq] at ht
    subst ht
    exact ⟨Nat.le_refl _,[],by simp,by simp,by simp⟩
  | f :: fs,off,total,ht,hf=>by
    simp only [tiles,Bool.and_eq_true,beq_iff_eq] at ht
    obtain ⟨rfl,ht⟩:=ht
    obtain ⟨hle,vs,h1,h2,h3⟩:=fields_typed ih fs _ total ht (fun g hg=>hf g (by simp [hg]))
    obtain ⟨hk,x,hx,hw⟩:=hf f (by simp)
    obtain ⟨us,g1,g2,g3⟩:=ih _ _ _ hk hx hw
    refine ⟨by omega,us ++ vs,by simp; omega,fun g hg=>?_,fun j c hj=>?_⟩
    · rcases List.mem_cons.1 hg with rfl|hg
      · refine ⟨Nat.le_refl _,?_⟩
        rw [Nat.sub_self,List.drop_zero,List.take_append_of_le_length (by omega),List.take_of_length_le (by omega)]
        exact g2
      · obtain ⟨q1,q2⟩:=h2 g hg
        refine ⟨by omega,?_⟩
        have e:(us ++ vs).drop (g.offset - f.offset)=vs.drop (g.offset - (f.offset+P.cellsOf f.type)):=by
          rw [List.drop_append,List.drop_eq_nil_of_le (by omega),List.nil_append]
          congr 1; omega
        rw [e]; exact q2
    · by_cases hlt:j < us.length
      · rw [List.getElem?_append_left hlt] at hj
        exact (g3 j c hj).seg
      · rw [List.getElem?_append_right (by omega)] at hj
        have:=h3 _ c hj
        rwa [show f.offset+P.cellsOf f.type+(j - us.length)=f.offset+j by omega] at this
theorem elems_typed {d fuel:Nat} {cs:List Value} {e:TypeId} (he:tyOk P d e=true) (ih:∀ (t:TypeId) (cs:List Value) (x:DataW H×List MemPlace),tyOk P d t=true→DataW.trod enc P W 0 (fun _=>true) held fuel t cs=some x→(∀ w∈x.1.weights P t,w≤B) →
      ∃ vs:List V,vs.length=P.cellsOf t∧Typed P B d t vs∧∀ j c,vs[j]?=some c→Good (bare W F G) cs j c) :
    ∀ (n:Nat),(∀ i,i < n→∃ x,DataW.trod enc P W 0 (fun _=>true) held fuel e ((cs.drop (i * P.cellsOf e)).take (P.cellsOf e))=some x∧∀ w∈x.1.weights P e,w≤B) →
      ∃ vs:List V,vs.length=n * P.cellsOf e∧(∀ i,i < n→Typed P B d e ((vs.drop (i * P.cellsOf e)).take (P.cellsOf e)))∧∀ j c,vs[j]?=some c→Good (bare W F G) cs j c
  | 0,_=>⟨[],by simp,by simp,by simp⟩
  | n + 1,hx=>by
    obtain ⟨vs,h1,h2,h3⟩:=elems_typed he ih n (fun i hi=>hx i (by omega))
    obtain ⟨x,hx',hw⟩:=hx n (by omega)
    obtain ⟨us,g1,g2,g3⟩:=ih _ _ _ he hx' hw
    refine ⟨vs ++ us,by simp [h1,g1,Nat.succ_mul],fun i hi=>?_,fun j c hj=>?_⟩
    · by_cases e':i=n
      · subst e'
        rw [List.drop_append,List.drop_eq_nil_of_le (by omega),List.nil_append,h1,Nat.sub_self,List.drop_zero,List.take_of_length_le (by omega)]
        exact g2
      · have hlt:i < n:=by omega
        have hle:(i+1) * P.cellsOf e≤n * P.cellsOf e:=Nat.mul_le_mul_right _ hlt
        rw [Nat.succ_mul] at hle
        rw [List.drop_append_of_le_length (by omega),List.take_append_of_le_length (by simp; omega)]
        exact h2 i hlt
    · by_cases hlt:j < vs.length
      · rw [List.getElem?_append_left hlt] at hj; exact h3 j c hj
      · rw [List.getElem?_append_right (by omega)] at hj
        have:=(g3 _ c hj).seg
        rwa [show n * P.cellsOf e+(j - vs.length)=j by omega] at this
theorem trod_typed (hF:∀ b off,b < W.heap.size→F b off):∀ (d fuel:Nat) (t:TypeId) (cs:List Value) (x:DataW H×List MemPlace),tyOk P d t=true→DataW.trod enc P W 0 (fun _=>true) held fuel t cs=some x→(∀ w∈x.1.weights P t,w≤B) →
    ∃ vs:List V,vs.length=P.cellsOf t∧Typed P B d t vs∧∀ j c,vs[j]?=some c→Good (bare W F G) cs j c
  | 0,_,_,_,_,h,_,_=>by simp [tyOk] at h
  | d+1,0,t,cs,x,_,h,_=>by simp [DataW.trod] at h
  | d + 1, fuel + 1,t,cs,x,hok,h,hw=>by
    have ih:=trod_typed hF d fuel
    unfold tyOk at hok
    unfold Typed
    cases hu:P.underlying t with
    | none=>rw [hu] at hok; simp at hok
    | some ty =>
      rw [hu] at hok
      cases ty <;> simp only [Bool.false_eq_true] at hok <;> simp only
      case bool =>
        unfold DataW.trod at h
        rw [hu] at h
        split at h <;> simp_all
        rename_i b
        exact ⟨[.bool b],by simp,by cases b <;> simp,fun j c hj=>by
          cases j with
          | zero=>simp at hj; subst hj; exact ⟨_,rfl,rfl,rfl,.bool b⟩
          | succ j=>simp at hj⟩
      case int k =>
        unfold DataW.trod at h
        rw [hu] at h
        split at h <;> simp_all
        rename_i n _
        obtain ⟨⟨rfl,_⟩,_⟩:=h
        exact ⟨[.int _ n],by simp,⟨n,by simp_all,rfl⟩,fun j c hj=>by
          cases j with
          | zero=>simp at hj; subst hj; exact ⟨_,rfl,rfl,rfl,.int _ n⟩
          | succ j=>simp at hj⟩
      case string =>
        unfold DataW.trod at h
        rw [hu] at h
        split at h <;> simp_all
        rename_i s
        exact ⟨[.str s],by simp,⟨s,h.1,rfl⟩,fun j c hj=>by
          cases j with
          | zero=>simp at hj; subst hj; exact ⟨_,rfl,rfl,rfl,.str s⟩
          | succ j=>simp at hj⟩
      case struct fs =>
        simp only [Bool.and_eq_true,List.all_eq_true] at hok
        obtain ⟨xs,n,e,hxe,hl,hlen,hf⟩:=DataW.trod_struct hu h
        cases e
        rw [hxe] at hw
        simp only [DataW.weights,hu] at hw
        obtain ⟨_,vs,h1,h2,h3⟩:=fields_typed (cs:=cs) ih fs.toList 0 (P.cellsOf t) hok.1 (fun f hf'=>⟨hok.2 f hf',by
          obtain ⟨i,hi⟩:=List.getElem?_of_mem hf'
          have hi':fs[i]?=some f:=by simpa using hi
          have:=hf i f hi'
          have hlt:=(Array.getElem?_eq_some_iff.1 hi').1
          rw [List.getElem?_eq_getElem (by omega)] at this
          refine ⟨_,this,fun w hwm=>hw w (DataW.weights_mem_each (j:=i) (t:=f.type) (d:=(xs[i]'(by omega)).1) ?_ ?_ w hwm)⟩
          · rw [List.getElem?_map]
            have:fs.toList[i]?=some f:=hi
            rw [this]; rfl
          · rw [List.getElem?_map,List.getElem?_eq_getElem (by omega)]; rfl⟩)
        refine ⟨vs,by simpa using h1,⟨by simpa using h1,fun f hf'=>by simpa using (h2 f hf').2⟩,fun j c hj=>by simpa using h3 j c hj⟩
      case array n e =>
        simp only [Bool.and_eq_true,beq_iff_eq] at hok
        obtain ⟨xs,m,e',hxe,hl,hlen,hf⟩:=DataW.trod_array hu h
        cases e'
        rw [hxe] at hw
        simp only [DataW.weights,hu] at hw
        obtain ⟨vs,h1,h2,h3⟩:=elems_typed (cs:=cs) hok.2 ih n (fun i hi=>by
          have:=hf i hi
          rw [List.getElem?_eq_getElem (by omega)] at this
          exact ⟨_,this,fun w hwm=>hw w (weights_all (List.mem_map.2 ⟨_,List.getElem_mem (by omega),rfl⟩) w hwm)⟩)
        exact ⟨vs,h1.trans hok.1,⟨h1.trans hok.1,h2⟩,h3⟩
      case slice e =>
        simp only [Bool.and_eq_true,beq_iff_eq,decide_eq_true_eq] at hok
        obtain ⟨⟨hc1,he⟩,hpos⟩:=hok
        rcases DataW.trod_slice hu h with ⟨rfl,_⟩|⟨a,len,cap,elems,rest,n,en,rfl,hxe,_,hlc,hcm,hel,hee,hsp,_⟩
        · exact ⟨[.sl false (P.cellsOf e) []],by simp [hc1],⟨[],by simp,by simp,by simp,rfl⟩,fun j c hj=>by
            cases j with
            | zero=>simp at hj; subst hj; exact ⟨_,rfl,rfl,rfl,.slNil false _⟩
            | succ j=>simp at hj⟩
        · cases en
          rw [hxe] at hw
          simp only [DataW.weights,hu] at hw
          have hsz:len * P.bytesOf e≤B:=by
            have:=hw _ (List.mem_cons_self ..)
            simp only [List.length_map,hel] at this
            rw [Nat.add_mul] at this
            omega
          have each:∀ i,i < len→∃ r:List V,r.length=P.cellsOf e∧Typed P B d e r∧∃ us,W.cells? 0 (a.add (i * P.cellsOf e)) (P.cellsOf e)=some us∧∀ j c,r[j]?=some c→Good (bare W F G) us j c:=fun i hi=>by
            have:=hee i hi
            rw [List.getElem?_eq_getElem (by omega)] at this
            obtain ⟨us,hus,hx⟩:=Option.bind_eq_some_iff.1 this
            obtain ⟨vs,h1,h2,h3⟩:=ih _ _ _ he hx (fun w hwm=>hw w (List.mem_cons_of_mem _ (List.mem_append_left _ (weights_all (List.mem_map.2 ⟨_,List.getElem_mem (by omega),rfl⟩) w hwm))))
            exact ⟨vs,h1,h2,us,hus,h3⟩
          by_cases hcap:cap=0
          · subst hcap
            have:len=0:=by omega
            subst this
            exact ⟨[.sl false (P.cellsOf e) []],by simp [hc1],⟨[],by simp,by simp,by simp,rfl⟩,fun j c hj=>by
              cases j with
              | zero=>simp at hj; subst hj; exact ⟨_,rfl,rfl,rfl,.slZ false _ a⟩
              | succ j=>simp at hj⟩
          · -- the first element,or the first spare one,is there
            have hspot:a.spot=none:=by
              have h0:∃ us,W.cells? 0 (a.add (0 * P.cellsOf e)) (P.cellsOf e)=some us:=by
                by_cases hl0:0 < len
                · obtain ⟨_,_,_,us,hus,_⟩:=each 0 hl0
                  exact ⟨us,hus⟩
                · have hl:len=0:=by omega
                  subst hl
                  have:=(hsp rfl).2 0 (by omega)
                  rw [List.getElem?_eq_getElem (by have:=(hsp rfl).1; omega)] at this
                  obtain ⟨us,hus,_⟩:=Option.bind_eq_some_iff.1 this
                  exact ⟨us,by simpa using hus⟩
              obtain ⟨us,hus⟩:=h0
              have hc:=(World.cells?_some hus).2.2 0 hpos
              simp only [Nat.zero_mul,Addr.add,if_true] at hc
              unfold World.cell? at hc
              cases hb:W.heap[a.block]? with
              | none=>rw [hb] at hc; simp at hc; have h2:=(World.cells?_some hus).2.1; rw [hc] at h2; simp at h2; omega
              | some o =>
                rw [hb] at hc
                cases hs:a.spot with
                | none=>rfl
                | some z =>
                  exfalso
                  have hlen:=(World.cells?_some hus).2.1
                  rw [List.getElem?_eq_getElem (by omega)] at hc
                  cases o <;> simp [hs] at hc
            obtain ⟨b,off,spot⟩:=a
            simp only at hspot
            subst hspot
            let row:Nat→List V:=fun i=>if hi:i < len then Classical.choose (each i hi) else []
            have hrow:∀ i (hi:i < len),row i=Classical.choose (each i hi):=fun i hi=>by simp only [row]; rw [dif_pos hi]
            let rows:=(List.range len).map row
            have hrl:rows.length=len:=by simp [rows]
            have hat:∀ i j c,at2 rows i j=some c→i < len∧∃ u,W.cell? ⟨b,off+i * P.cellsOf e+j,none⟩=some u∧u.oneCell'=true∧c.closed=true∧R (bare W F G) c u:=fun i j c hc=>by
              unfold at2 at hc
              have hi:i < len:=by
                by_cases hi:i < len
                · exact hi
                · rw [List.getElem?_eq_none (by omega)] at hc; cases hc
              refine ⟨hi,?_⟩
              rw [List.getElem?_eq_getElem (by omega)] at hc
              simp only [rows,List.getElem_map,List.getElem_range,Option.bind_some] at hc
              rw [hrow i hi] at hc
              obtain ⟨q1,q2,us,hus,q3⟩:=Classical.choose_spec (each i hi)
              obtain ⟨u,hu1,hu2,hu3,hu4⟩:=q3 j c hc
              have hj:j < P.cellsOf e:=by rw [← q1]; exact (List.getElem?_eq_some_iff.1 hc).1
              have hcell:=(World.cells?_some hus).2.2 j hj
              refine ⟨u,?_,hu2,hu3,hu4⟩
              rw [← hu1,← hcell]
              congr 1
              simp only [Addr.add]
              split <;> split <;> simp_all <;> omega
            refine ⟨[.sl false (P.cellsOf e) rows],by simp [hc1],⟨rows,by rw [hrl]; omega,by rw [hrl]; exact hsz,fun r hr=>?_,rfl⟩,fun j c hj=>?_⟩
            · obtain ⟨i,hi,rfl⟩:=List.mem_map.1 hr
              rw [List.mem_range] at hi
              rw [hrow i hi]
              obtain ⟨q1,q2,_⟩:=Classical.choose_spec (each i hi)
              exact ⟨q1,q2⟩
            · cases j with
              | succ j=>simp at hj
              | zero =>
                simp at hj; subst hj
                refine ⟨_,rfl,rfl,rfl,?_⟩
                have:=R.sl (C:=bare W F G) false (P.cellsOf e) rows b off cap (fun i j=>(W.cell? ⟨b,off+i * P.cellsOf e+j,none⟩).getD undef) (by omega) hcm (fun r hr=>by
                    obtain ⟨i,hi,rfl⟩:=List.mem_map.1 hr
                    rw [List.mem_range] at hi
                    rw [hrow i hi]
                    exact (Classical.choose_spec (each i hi)).1) (fun e=>by cases e)
                  (fun i j c hc=>by
                    obtain ⟨hi,u,h1,h2,_,_⟩:=hat i j c hc
                    simp only [bare,h1,Option.getD_some]
                    refine ⟨by trivial,hF _ _ ?_,h2⟩
                    unfold World.cell? at h1
                    cases hb:W.heap[b]? with
                    | none=>rw [hb] at h1; cases h1
                    | some o=>exact (Array.getElem?_eq_some_iff.1 hb).1)
                  (fun i j c hc=>by obtain ⟨_,u,_,_,h3,_⟩:=hat i j c hc; exact h3)
                  (fun i j c hc=>by obtain ⟨_,u,h1,_,_,h4⟩:=hat i j c hc; simp only [h1,Option.getD_some]; exact h4)
                rw [hrl] at this
                exact this
end
end Go.Ab
