/- PROVED: a ring is a queue: whatever is pushed and popped, it is what a plain list would be, cut at eight: for every ring and every list the law RingQueue returns true, and its arguments read behind the call as before. No condition. -/
import Derived.Test.YtleilicpggnemaaRows
import Derived.Test.YtleilicpggnemaaRing8
import Derived.Test.YtleilicpggnemaaRingO
import Derived.ProofKit
namespace Go.Proofs.Ytleilicpggnemaa
open Go.ChangeShapes Go.WideShapes Go.ChangeAt Go.RowKit Go.Ab

theorem own : ownKnob Try.prog.godebug = none := by kernel_rfl
theorem laidOut : laidOutB Try.prog = true := by kernel_rfl

set_option maxRecDepth 100000 in
theorem queue_lifted (os : Os) (started : os.Started) (H : Type) (enc : TypeId × Value → H) :
    ReturnsInHanded {} Try.checked os 3 .any (Rows.ringQueueSpec.pre6 enc Try.prog Try.f3 Rows.ringQueueRow.domain false) (Rows.ringQueueSpec.post enc Try.prog Try.f3 false true false false) := by
  refine returnsInHanded_of_change (C := Try.checked) own started (by kernel_rfl) Try.func3
    (ChangeSpec.witness6 (enc := enc) (C := Try.checked) false ⟨#[], #[.agg #[.int .i64 0, .int .i64 0, .int .i64 0, .int .i64 0, .int .i64 0, .int .i64 0, .int .i64 0, .int .i64 0, .int .i64 0, .int .i64 0], .slice none 0 0], []⟩ 8 (by kernel_rfl) (by kernel_rfl) (by kernel_rfl) (by kernel_rfl)) ?_
  intro W base args ds gs before hval0 hW hcnd _
  have hval : ∀ (j : Nat) t v, Try.f3.params[j]? = some t → args[j]? = some v → Value.okWide Try.prog W .any base t v := hval0
  have hW' := hW
  obtain ⟨p, q, hA0, hV, rfl, hfz, hnd⟩ := hW
  have hA : DataW.TrodAll enc Try.prog W 0 (fun _ => true) true Try.f3.params.toList args.toList ds p := hA0
  rw [Try.params3] at hA hval
  obtain ⟨v0, v1, d0, d1, p0, p1, rfl, rfl, rfl, h0, h1⟩ := trodAll_two hA
  obtain ⟨rfl, rfl⟩ := trodVars_none hV
  obtain ⟨s, h, m, rfl⟩ := open_ring (hval 0 24 v0 rfl rfl) h0
  obtain ⟨l, hl, hR⟩ := open_list (hval 1 25 v1 rfl rfl) h1
  clear hA0 hval0
  simp only [List.append_nil] at hW'
  have hlt0 : ∀ x ∈ p0, x.block < W.heap.size := fun x hx => by simpa using hW'.lt x (by simp [hx])
  have hlt1 : ∀ x ∈ p1, x.block < W.heap.size := fun x hx => by simpa using hW'.lt x (by simp [hx])
  refine Calls.mono ((c3 s h m l hl).run (vs := [.agg (ringU s h m), v1]) (w := W) (F := fun b _ => b < W.heap.size) rfl rfl (fun _ _ h => h) fun i a hi => ?_) ?_
  · cases i with
    | zero => cases hi; exact ringU_R _ s h m
    | succ i =>
      cases i with
      | zero => cases hi; exact hR _ _ (fun _ _ h => h)
      | succ i => simp at hi
  · rintro e W' ⟨v, F', rfl, hr, hb, _⟩
    cases hr
    exact ⟨_, rfl, [d0, d1], [], p0 ++ p1, [], p0 ++ p1, [], hW', trodAll_mk1 (shut_bool Try.underlying4 true),
      trodAll_mk2 (Below.trod laidOut (by kernel_rfl) (of_decide_eq_true (by kernel_rfl)) h0 hb hlt0) (Below.trod laidOut (by kernel_rfl) (of_decide_eq_true (by kernel_rfl)) h1 hb hlt1),
      rfl, hb.frame _, fun e => by cases e⟩

theorem queue_holds : Rows.RingQueueSaid :=
  OpenClaim.holds_of_wide 3 Try.f3 rfl rfl rfl rfl rfl rfl rfl ⟨rfl, rfl, rfl, rfl, rfl⟩ rfl rfl rfl rfl rfl (by kernel_rfl) Try.func3 (by kernel_rfl)
    (of_decide_eq_true (by kernel_rfl)) (by unfold Func.isWrapper; first | (rw [if_pos (by decide +kernel)]; kernel_rfl) | (rw [if_neg (by decide +kernel)]; exact ⟨rfl, rfl⟩))
    (fun os started H enc _ => queue_lifted os started H enc)
#print axioms queue_holds
end Go.Proofs.Ytleilicpggnemaa
