/-
  PROVED: so many Gs laid behind an empty ring are all there, each once: for every input the law ReadySpill returns true, and its arguments read behind the call as before. No condition.
-/
import Derived.Test.YtkanpbjjabdalaaRows
import Derived.ProofKit
import Derived.SizedLaws
import Derived.Test.YtkanpbjjabdalaaK7
import Derived.Test.YtkanpbjjabdalaaK32
import Derived.Test.YtkanpbjjabdalaaK36
set_option linter.all false
namespace Go.Proofs.Ytkanpbjjabdalaa
open Go.ChangeShapes Go.WideShapes Go.ChangeAt Go.RowKit Go.Ab
theorem own:ownKnob Try.prog.godebug=none:=by kernel_rfl
theorem laidOut:laidOutB Try.prog=true:=by kernel_rfl
set_option maxRecDepth 100000 in
theorem readySpill_lifted (os:Os) (started:os.Started) (H:Type) (enc:TypeId×Value->H) :
  ReturnsInHanded {} Try.checked os 6 .any (Rows.readySpillSpec.pre6 enc Try.prog Try.f6 Rows.readySpillRow.domain false) (Rows.readySpillSpec.post enc Try.prog Try.f6 false true false false):=by
 refine returnsInHanded_of_change_sized (C:=Try.checked) own started (by kernel_rfl) Try.func6
  (ChangeSpec.witness6 (enc:=enc) (C:=Try.checked) false ⟨#[],#[.int .i64 0],[]⟩ 8 (by kernel_rfl) (by kernel_rfl) (by kernel_rfl) (by kernel_rfl)) ?_
 intro W base args ds gs before hval0 hW hcnd hsz0 _
 have hval:∀ (j:Nat) t v,Try.f6.params[j]?=some t->args[j]?=some v->Value.okWide Try.prog W .any base t v:=hval0
 have hsz:(DataW.weightsEach Try.prog (Try.f6.params.toList ++ Rows.readySpillSpec.plain.varTypes Try.prog) (ds ++ gs)).all (·<=reachBytes)=true:=hsz0
 have hW':=hW
 obtain ⟨p,q,hA0,hV,rfl,hfz,hnd⟩:=hW
 have hA:DataW.TrodAll enc Try.prog W 0 (fun _=>true) true Try.f6.params.toList args.toList ds p:=hA0
 rw [Try.params6] at hA hval hsz
 obtain ⟨v0,d0,rfl,rfl,h0⟩:=trodAll_one hA
 obtain ⟨rfl,rfl⟩:=trodVars_none hV
 obtain ⟨n1,rfl⟩:=open_int (hval 0 3 v0 rfl rfl) h0
 clear hA0 hval0
 simp only [List.append_nil] at hW'
 have hlt0:∀ x∈p,x.block < W.heap.size:=fun x hx=>by simpa using hW'.lt x (by simp [hx])
 refine Calls.mono ((d6 (F:=Go.Ab.fs) rfl rfl n1).run (vs:=[.int .i64 n1]) (w:=W) (F:=fun b _=>b < W.heap.size) rfl rfl (fun _ _ h=>h) fun i a hi=>?_) ?_
 ·cases i with
  |zero=>cases hi; exact .int _ _
  |succ i=>simp at hi
 ·rintro e W' ⟨v,F',rfl,hr,hb,_⟩
  cases hr
  exact ⟨_,rfl,[d0],[],_,[],_,[],hW',trodAll_mk1 (shut_bool Try.underlying4 true),
   trodAll_mk1 (Below.trod laidOut (by kernel_rfl) (of_decide_eq_true (by kernel_rfl)) h0 hb hlt0),
   rfl,hb.frame _,fun e=>by cases e⟩
theorem readySpill_holds:Rows.ReadySpillSaid :=
 OpenClaim.holds_of_wide 6 Try.f6 rfl rfl rfl rfl rfl rfl rfl ⟨rfl,rfl,rfl,rfl,rfl⟩ rfl rfl rfl rfl rfl (by kernel_rfl) Try.func6 (by kernel_rfl)
  (of_decide_eq_true (by kernel_rfl)) (by unfold Func.isWrapper; first|(rw [if_pos (by decide +kernel)]; kernel_rfl)|(rw [if_neg (by decide +kernel)]; exact ⟨rfl,rfl⟩))
  (fun os started H enc _=>readySpill_lifted os started H enc)
#print axioms readySpill_holds
end Go.Proofs.Ytkanpbjjabdalaa
