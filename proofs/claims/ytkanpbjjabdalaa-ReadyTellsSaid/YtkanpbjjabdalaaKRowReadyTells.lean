/-
  PROVED: the program and the document give the same answers: for every input the law ReadyTells returns true, and its arguments read behind the call as before. No condition.
-/
import Derived.Test.YtkanpbjjabdalaaRows
import Derived.ProofKit
import Derived.SizedLaws
import Derived.Test.YtkanpbjjabdalaaK7
import Derived.Test.YtkanpbjjabdalaaK32
import Derived.Test.YtkanpbjjabdalaaK39
set_option linter.all false
namespace Go.Proofs.Ytkanpbjjabdalaa
open Go.ChangeShapes Go.WideShapes Go.ChangeAt Go.RowKit Go.Ab
theorem own:ownKnob Try.prog.godebug=none:=by kernel_rfl
theorem laidOut:laidOutB Try.prog=true:=by kernel_rfl
set_option maxRecDepth 100000 in
theorem readyTells_lifted (os:Os) (started:os.Started) (H:Type) (enc:TypeId×Value->H) :
  ReturnsInHanded {} Try.checked os 3 .any (Rows.readyTellsSpec.pre6 enc Try.prog Try.f3 Rows.readyTellsRow.domain false) (Rows.readyTellsSpec.post enc Try.prog Try.f3 false true false false):=by
 refine returnsInHanded_of_change_sized (C:=Try.checked) own started (by kernel_rfl) Try.func3
  (ChangeSpec.witness6 (enc:=enc) (C:=Try.checked) false ⟨#[],#[.agg #[.slice none 0 0,.slice none 0 0,.slice none 0 0,.slice none 0 0,.slice none 0 0,.int .i64 0,.int .i64 0,.int .i64 0,.int .i64 0,.slice none 0 0,.slice none 0 0,.slice none 0 0,.slice none 0 0,.slice none 0 0,.int .i64 0,.int .i64 0],.int .i64 0,.int .i64 0],[]⟩ 8 (by kernel_rfl) (by kernel_rfl) (by kernel_rfl) (by kernel_rfl)) ?_
 intro W base args ds gs before hval0 hW hcnd hsz0 _
 have hval:∀ (j:Nat) t v,Try.f3.params[j]?=some t->args[j]?=some v->Value.okWide Try.prog W .any base t v:=hval0
 have hsz:(DataW.weightsEach Try.prog (Try.f3.params.toList ++ Rows.readyTellsSpec.plain.varTypes Try.prog) (ds ++ gs)).all (·<=reachBytes)=true:=hsz0
 have hW':=hW
 obtain ⟨p,q,hA0,hV,rfl,hfz,hnd⟩:=hW
 have hA:DataW.TrodAll enc Try.prog W 0 (fun _=>true) true Try.f3.params.toList args.toList ds p:=hA0
 rw [Try.params3] at hA hval hsz
 obtain ⟨v0,v1,v2,d0,d1,d2,p0,p1,p2,rfl,rfl,rfl,h0,h1,h2⟩:=trodAll_three hA
 obtain ⟨rfl,rfl⟩:=trodVars_none hV
 obtain ⟨vs0,t0,R0⟩:=open_struct Try.underlying32 (by kernel_rfl) (hval 0 32 v0 rfl rfl) h0 (sized hsz (j:=0) (t:=32) rfl rfl)
 obtain ⟨s,rfl,r0⟩:=typed_state (d:=0) t0
 obtain ⟨n1,rfl⟩:=open_int (hval 1 3 v1 rfl rfl) h1
 obtain ⟨n2,rfl⟩:=open_int (hval 2 3 v2 rfl rfl) h2
 clear hA0 hval0
 simp only [List.append_nil] at hW'
 have hlt0:∀ x∈p0,x.block < W.heap.size:=fun x hx=>by simpa using hW'.lt x (by simp [hx])
 have hlt1:∀ x∈p1,x.block < W.heap.size:=fun x hx=>by simpa using hW'.lt x (by simp [hx])
 have hlt2:∀ x∈p2,x.block < W.heap.size:=fun x hx=>by simpa using hW'.lt x (by simp [hx])
 refine Calls.mono ((d3 (F:=Go.Ab.fs) rfl rfl s r0.held n1 n2).run (vs:=[v0,.int .i64 n1,.int .i64 n2]) (w:=W) (F:=fun b _=>b < W.heap.size) rfl rfl (fun _ _ h=>h) fun i a hi=>?_) ?_
 ·cases i with
  |zero=>cases hi; exact R0
  |succ i =>
   cases i with
   |zero=>cases hi; exact .int _ _
   |succ i =>
    cases i with
    |zero=>cases hi; exact .int _ _
    |succ i=>simp at hi
 ·rintro e W' ⟨v,F',rfl,hr,hb,_⟩
  cases hr
  exact ⟨_,rfl,[d0,d1,d2],[],_,[],_,[],hW',trodAll_mk1 (shut_bool Try.underlying4 true),
   trodAll_mk3 (Below.trod laidOut (by kernel_rfl) (of_decide_eq_true (by kernel_rfl)) h0 hb hlt0) (Below.trod laidOut (by kernel_rfl) (of_decide_eq_true (by kernel_rfl)) h1 hb hlt1) (Below.trod laidOut (by kernel_rfl) (of_decide_eq_true (by kernel_rfl)) h2 hb hlt2),
   rfl,hb.frame _,fun e=>by cases e⟩
theorem readyTells_holds:Rows.ReadyTellsSaid :=
 OpenClaim.holds_of_wide 3 Try.f3 rfl rfl rfl rfl rfl rfl rfl ⟨rfl,rfl,rfl,rfl,rfl⟩ rfl rfl rfl rfl rfl (by kernel_rfl) Try.func3 (by kernel_rfl)
  (of_decide_eq_true (by kernel_rfl)) (by unfold Func.isWrapper; first|(rw [if_pos (by decide +kernel)]; kernel_rfl)|(rw [if_neg (by decide +kernel)]; exact ⟨rfl,rfl⟩))
  (fun os started H enc _=>readyTells_lifted os started H enc)
#print axioms readyTells_holds
end Go.Proofs.Ytkanpbjjabdalaa
