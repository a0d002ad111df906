/- PROVED: pushed and popped, over and over, a ring goes round: its Head is how often that was, by eight, and it holds what it held: for all numbers the law RingRound returns true. No condition. -/
import Derived.Test.YtleilicpggnemaaRows
import Derived.Test.YtleilicpggnemaaRing6
import Derived.Test.YtleilicpggnemaaRingO
import Derived.ProofKit
namespace Go.Proofs.Ytleilicpggnemaa
open Go.ChangeShapes Go.WideShapes Go.ChangeAt Go.RowKit Go.Ab

theorem own : ownKnob Try.prog.godebug = none := by kernel_rfl

set_option maxRecDepth 100000 in
theorem round_lifted (os : Os) (started : os.Started) (H : Type) (enc : TypeId × Value → H) :
    ReturnsInHanded {} Try.checked os 6 .any (Rows.ringRoundSpec.pre6 enc Try.prog Try.f6 Rows.ringRoundRow.domain false) (Rows.ringRoundSpec.post enc Try.prog Try.f6 false true false false) := by
  refine returnsInHanded_of_change (C := Try.checked) own started (by kernel_rfl) Try.func6
    (ChangeSpec.witness6 (enc := enc) (C := Try.checked) false ⟨#[], #[.int .i64 0, .int .i64 0], []⟩ 8 (by kernel_rfl) (by kernel_rfl) (by kernel_rfl) (by kernel_rfl)) ?_
  intro W base args ds gs before hval0 hW hcnd _
  have hval : ∀ (j : Nat) t v, Try.f6.params[j]? = some t → args[j]? = some v → Value.okWide Try.prog W .any base t v := hval0
  have hW' := hW
  obtain ⟨p, q, hA0, hV, rfl, hfz, hnd⟩ := hW
  have hA : DataW.TrodAll enc Try.prog W 0 (fun _ => true) true Try.f6.params.toList args.toList ds p := hA0
  rw [Try.params6] at hA hval
  obtain ⟨v0, v1, d0, d1, p0, p1, rfl, rfl, rfl, h0, h1⟩ := trodAll_two hA
  obtain ⟨rfl, rfl⟩ := trodVars_none hV
  obtain ⟨a, rfl, rfl, rfl, wa⟩ := open_int Try.underlying3 (hval 0 3 v0 rfl rfl) h0
  obtain ⟨b, rfl, rfl, rfl, wb⟩ := open_int Try.underlying3 (hval 1 3 v1 rfl rfl) h1
  clear hA0 hval0
  simp only [List.append_nil] at hW'
  refine Calls.mono ((c6 a b).run (vs := [.int .i64 a, .int .i64 b]) (w := W) (F := fun b _ => b < W.heap.size) rfl rfl (fun _ _ h => h) fun i x hi => ?_) ?_
  · cases i with
    | zero => cases hi; exact .int _ _
    | succ i =>
      cases i with
      | zero => cases hi; exact .int _ _
      | succ i => simp at hi
  · rintro e W' ⟨v, F', rfl, hr, hb, _⟩
    cases hr
    exact ⟨_, rfl, _, [], [], [], [], [], hW', trodAll_mk1 (shut_bool Try.underlying4 true),
      trodAll_mk2 (shut_int Try.underlying3 wa) (shut_int Try.underlying3 wb),
      rfl, hb.frame _, fun e => by cases e⟩

theorem round_holds : Rows.RingRoundSaid :=
  OpenClaim.holds_of_wide 6 Try.f6 rfl rfl rfl rfl rfl rfl rfl ⟨rfl, rfl, rfl, rfl, rfl⟩ rfl rfl rfl rfl rfl (by kernel_rfl) Try.func6 (by kernel_rfl)
    (of_decide_eq_true (by kernel_rfl)) (by unfold Func.isWrapper; first | (rw [if_pos (by decide +kernel)]; kernel_rfl) | (rw [if_neg (by decide +kernel)]; exact ⟨rfl, rfl⟩))
    (fun os started H enc _ => round_lifted os started H enc)
#print axioms round_holds
end Go.Proofs.Ytleilicpggnemaa
