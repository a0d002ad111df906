/-
  The laws of the stage 'ring': a ring goes round.
-/
import Derived.Test.YtleilicpggnemaaRing5
namespace Go.Ab
open Go Go.Proofs
set_option maxRecDepth 100000

structure RoundI where
  i : Int
  s : Nat → Int
  h : Int
  m : Int

set_option maxHeartbeats 4000000 in
theorem c6 (n g : Int) : CallsV Try.prog 6 [.int .i64 n, .int .i64 g] (.bool true) [.undef, .undef] true := by
  have cf := c7
  refine callsV_q hD Try.func6 ok6 rfl rfl rfl fun P Q hP hQ => ?_
  by_cases hc : n < 0 ∨ 100 < n ∨ g < 1
  · repeat' (cbv; first | refine CallQ.to (hP ▸ cf) rfl (.inl rfl) ?_ | refine IfLt.t (by omega) ?_ | refine IfLt.f (by omega) ?_ | refine IfLt.split (fun hc => ?_) (fun hc => ?_) | refine IfLe.t (by omega) ?_ | refine IfLe.f (by omega) ?_ | refine IfLe.split (fun hc => ?_) (fun hc => ?_) | refine IfEq.t (by omega) ?_ | refine IfEq.f (by omega) ?_ | refine IfEq.split (fun hc => ?_) (fun hc => ?_) | refine Lt.wr (by omega) (by omega) fun v hv => ?_ | refine Lt.rem (by omega) (by omega) fun v hv => ?_ | refine Lt.quo (by omega) (by omega) (by omega) fun v hv => ?_ | refine Lt.len fun v hv => ?_ | refine Lt.all True.intro fun v hv => ?_ | refine Lt.to (by decide) rfl ?_ | fail)
    all_goals (try cbv)
    all_goals first | exact hQ _ ⟨rfl, rfl, rfl, rfl, rfl⟩ | (exfalso; omega)
  · obtain ⟨s0, h0, m0, e0, r0, _, c0⟩ := of_all [g] (by simp) true (by simp [OfOk]; omega)
    replace r0 := r0 rfl
    repeat' (cbv; first | refine CallQ.to (hP ▸ cf) rfl (.inl rfl) ?_ | refine CallQ.to (hP ▸ c0) rfl (.inl rfl) ?_ | refine IfLt.t (by omega) ?_ | refine IfLt.f (by omega) ?_ | refine IfLt.split (fun hc => ?_) (fun hc => ?_) | refine IfLe.t (by omega) ?_ | refine IfLe.f (by omega) ?_ | refine IfLe.split (fun hc => ?_) (fun hc => ?_) | refine IfEq.t (by omega) ?_ | refine IfEq.f (by omega) ?_ | refine IfEq.split (fun hc => ?_) (fun hc => ?_) | refine Lt.wr (by omega) (by omega) fun v hv => ?_ | refine Lt.rem (by omega) (by omega) fun v hv => ?_ | refine Lt.quo (by omega) (by omega) (by omega) fun v hv => ?_ | refine Lt.len fun v hv => ?_ | refine Lt.all True.intro fun v hv => ?_ | refine Lt.to (by decide) rfl ?_ | fail)
    all_goals (try cbv)
    refine LoopQ.to (ι := RoundI) (fun p => ⟨tab .undef [(0, .int .i64 n), (1, .int .i64 g), (5, .ptr 100 0), (7, .int .i64 p.i)], tab .dead [(100, .box (ringC p.s p.h p.m))]⟩)
      (fun p => 0 ≤ p.i ∧ p.i ≤ n ∧ p.h = p.i % 8 ∧ RingIs p.s p.h p.m [g]) (fun p => (n - p.i).toNat) ⟨0, s0, h0, m0⟩
      ⟨by show (0 : Int) ≤ 0; omega, by show (0 : Int) ≤ n; omega, by show h0 = 0 % 8; omega, r0⟩ rfl fun p hp A hA => ?_
    obtain ⟨i, s1, h1, m1⟩ := p
    obtain ⟨i0, i1, hh, r1⟩ := hp
    dsimp only at i0 i1 hh r1
    obtain ⟨s2, m2, r2, c2⟩ := push_ok r1 (v := g) (by simp) (by omega)
    obtain ⟨s3, h3, m3, e3, r3, c3⟩ := pop_ok r2
    have l1 := c14 _ _ _ _ r1
    have i1' := c13 [g] [g] (by simp) true (by simp)
    repeat' (cbv; first | refine CallQ.to (hP ▸ c2) rfl (.inl rfl) ?_ | refine CallQ.to (hP ▸ c3) rfl (.inl rfl) ?_ | refine CallQ.to (hP ▸ l1) rfl (.inl rfl) ?_ | refine CallQ.to (hP ▸ i1') rfl (.inl rfl) ?_ | refine IfLt.t (by omega) ?_ | refine IfLt.f (by omega) ?_ | refine IfLt.split (fun hc => ?_) (fun hc => ?_) | refine IfLe.t (by omega) ?_ | refine IfLe.f (by omega) ?_ | refine IfLe.split (fun hc => ?_) (fun hc => ?_) | refine IfEq.t (by omega) ?_ | refine IfEq.f (by omega) ?_ | refine IfEq.split (fun hc => ?_) (fun hc => ?_) | refine Lt.wr (by omega) (by omega) fun v hv => ?_ | refine Lt.rem (by omega) (by omega) fun v hv => ?_ | refine Lt.quo (by omega) (by omega) (by omega) fun v hv => ?_ | refine Lt.len fun v hv => ?_ | refine Lt.all True.intro fun v hv => ?_ | refine Lt.to (by decide) rfl ?_ | fail)
    all_goals (try cbv)
    · exact hA ⟨v, s3, h3, m3⟩ _ ⟨by show 0 ≤ v; omega, by show v ≤ n; omega, by show h3 = v % 8; omega, r3⟩ (by show (n - v).toNat < (n - i).toNat; omega) rfl
    · exact hQ _ ⟨rfl, rfl, rfl, rfl, rfl⟩
end Go.Ab
