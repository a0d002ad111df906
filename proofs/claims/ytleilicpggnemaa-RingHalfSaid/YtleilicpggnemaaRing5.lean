/-
  The laws of the stage 'ring': the fixed calls.
-/
import Derived.Test.YtleilicpggnemaaRingL2
import Derived.Test.YtleilicpggnemaaRing4
namespace Go.Ab
open Go Go.Proofs
set_option maxRecDepth 100000

set_option maxHeartbeats 4000000 in
theorem c7 : CallsV Try.prog 7 [] (.bool true) [] true := by
  obtain ⟨s1, h1, m1, e1, r1, _, c1⟩ := of_all [1, 2, 3] (by decide) true (by simp [OfOk])
  replace r1 := r1 rfl
  obtain ⟨s2, h2, m2, e2, r2, c2⟩ := half_ok r1
  obtain ⟨s3, h3, m3, e3, r3, c3⟩ := pop_ok r1
  obtain ⟨s4, m4, r4, c4⟩ := push_ok r3 (v := 9) (by decide) (by decide)
  obtain ⟨s5, h5, m5, e5, _, r5, c5⟩ := of_all [1, 2, 3, 4, 5, 6, 7, 8, 9] (by decide) false (by simp [OfOk])
  have l2 := c14 _ _ _ _ r2
  have l4 := c14 _ _ _ _ r4
  have i1 := c13 [1, 2] [1, 2] (by decide) true (by simp)
  have i2 := c13 [3] [3] (by decide) true (by simp)
  have i3 := c13 [2, 3, 9] [2, 3, 9] (by decide) true (by simp)
  have y1 := c12 s1 h1 m1 true (by simp [r1.may])
  have y2 := c12 (fun _ => 0) 0 1 false (by simp [May]; exact ⟨0, by decide, by decide, by decide⟩)
  have h31 : h3 = 1 := by rw [e3, e1]; rfl
  refine callsV_q hD Try.func7 ok7 rfl rfl rfl fun P Q hP hQ => ?_
  repeat' (cbv; first | refine CallQ.to (hP ▸ c1) rfl (.inl rfl) ?_ | refine CallQ.to (hP ▸ c2) rfl (.inl rfl) ?_ | refine CallQ.to (hP ▸ c3) rfl (.inl rfl) ?_ | refine CallQ.to (hP ▸ c4) rfl (.inl rfl) ?_ | refine CallQ.to (hP ▸ c5) rfl (.inl rfl) ?_ | refine CallQ.to (hP ▸ l2) rfl (.inl rfl) ?_ | refine CallQ.to (hP ▸ l4) rfl (.inl rfl) ?_ | refine CallQ.to (hP ▸ i1) rfl (.inl rfl) ?_ | refine CallQ.to (hP ▸ i2) rfl (.inl rfl) ?_ | refine CallQ.to (hP ▸ i3) rfl (.inl rfl) ?_ | refine CallQ.to (hP ▸ y1) rfl (.inl rfl) ?_ | refine CallQ.to (hP ▸ y2) rfl (.inl rfl) ?_ | refine IfLt.t (by omega) ?_ | refine IfLt.f (by omega) ?_ | refine IfLt.split (fun hc => ?_) (fun hc => ?_) | refine IfLe.t (by omega) ?_ | refine IfLe.f (by omega) ?_ | refine IfLe.split (fun hc => ?_) (fun hc => ?_) | refine IfEq.t (by omega) ?_ | refine IfEq.f (by omega) ?_ | refine IfEq.split (fun hc => ?_) (fun hc => ?_) | refine Lt.wr (by omega) (by omega) fun v hv => ?_ | refine Lt.rem (by omega) (by omega) fun v hv => ?_ | refine Lt.quo (by omega) (by omega) (by omega) fun v hv => ?_ | refine Lt.len fun v hv => ?_ | refine Lt.all True.intro fun v hv => ?_ | refine Lt.to (by decide) rfl ?_ | fail)
  all_goals (try cbv)
  exact hQ _ ⟨rfl, rfl, rfl, rfl, rfl⟩
end Go.Ab
