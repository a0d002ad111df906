/-
  The laws of the stage 'ring': half of a ring.
-/
import Derived.Test.YtleilicpggnemaaRing5
namespace Go.Ab
open Go Go.Proofs
set_option maxRecDepth 100000

set_option maxHeartbeats 8000000 in
theorem c4 (s : Nat → Int) (h m : Int) : CallsV Try.prog 4 [.agg (ringC s h m)] (.bool true) [.undef] true := by
  have cf := c7
  obtain ⟨b, hb⟩ : ∃ b : Bool, b = true ↔ May s h m := by
    by_cases h : May s h m
    · exact ⟨true, by simp [h]⟩
    · exact ⟨false, by simp [h]⟩
  have cm := c8 s h m b hb
  refine callsV_q hD Try.func4 ok4 rfl rfl rfl fun P Q hP hQ => ?_
  cases b with
  | false =>
    repeat' (cbv; first | refine CallQ.to (hP ▸ cf) rfl (.inl rfl) ?_ | refine CallQ.to (hP ▸ cm) rfl (.inl rfl) ?_ | refine IfLt.t (by omega) ?_ | refine IfLt.f (by omega) ?_ | refine IfLt.split (fun hc => ?_) (fun hc => ?_) | refine IfLe.t (by omega) ?_ | refine IfLe.f (by omega) ?_ | refine IfLe.split (fun hc => ?_) (fun hc => ?_) | refine IfEq.t (by omega) ?_ | refine IfEq.f (by omega) ?_ | refine IfEq.split (fun hc => ?_) (fun hc => ?_) | refine Lt.wr (by omega) (by omega) fun v hv => ?_ | refine Lt.rem (by omega) (by omega) fun v hv => ?_ | refine Lt.quo (by omega) (by omega) (by omega) fun v hv => ?_ | refine Lt.len fun v hv => ?_ | refine Lt.all True.intro fun v hv => ?_ | refine Lt.to (by decide) rfl ?_ | fail)
    all_goals (try cbv)
    all_goals exact hQ _ ⟨rfl, rfl, rfl, rfl, rfl⟩
  | true =>
    obtain ⟨l, r0⟩ := (hb.1 rfl).ring
    have l8 := r0.m1
    obtain ⟨s1, h1, m1, _, r1, ch⟩ := half_ok r0
    obtain ⟨k, hk⟩ : ∃ k, k = l.length - l.length / 2 := ⟨_, rfl⟩
    rw [← hk] at r1 ch
    obtain ⟨ra, ha⟩ : ∃ r, r = (l.take k).map iC := ⟨_, rfl⟩
    obtain ⟨rb, hb'⟩ : ∃ r, r = (l.drop k).map iC := ⟨_, rfl⟩
    obtain ⟨rl, hl⟩ : ∃ r, r = l.map iC := ⟨_, rfl⟩
    have sa := shR_iC (l.take k)
    have sb := shR_iC (l.drop k)
    have sl := shR_iC l
    have d1 := c14 _ _ _ _ r1
    have d2 := c12 s1 h1 m1 true (by simp [r1.may])
    have d3 := c9 s h m l r0
    have d4 := c13 l l (by omega) true (by simp)
    have la : ra.length = k := by rw [ha]; simp; omega
    have lb : rb.length = l.length - k := by rw [hb']; simp
    have hcat : ra ++ rb = rl := by rw [ha, hb', hl, ← List.map_append, List.take_append_drop]
    rw [← ha] at ch sa
    rw [← hb'] at d1 sb
    rw [← hl] at d3 d4 sl
    repeat' (cbv; first | refine CallQ.to (hP ▸ cf) rfl (.inl rfl) ?_ | refine CallQ.to (hP ▸ cm) rfl (.inl rfl) ?_ | refine CallQ.to (hP ▸ ch) rfl (.inl rfl) ?_ | refine CallQ.to (hP ▸ d1) rfl (.inl rfl) ?_ | refine CallQ.to (hP ▸ d2) rfl (.inl rfl) ?_ | refine CallQ.to (hP ▸ d3) rfl (.inl rfl) ?_ | refine CallQ.to (hP ▸ d4) rfl (.inl rfl) ?_ ⟨sl, sl, True.intro⟩ | refine Lt.to (by show ra.length * 8 ≤ 140737488355328; omega) rfl ?_ | refine Lt.to (v := rl) (by refine ⟨hv, ?_⟩; show (_ + rb.length) * 8 ≤ 140737488355328; omega) hcat ?_ | refine IfLt.t (by omega) ?_ | refine IfLt.f (by omega) ?_ | refine IfLt.split (fun hc => ?_) (fun hc => ?_) | refine IfLe.t (by omega) ?_ | refine IfLe.f (by omega) ?_ | refine IfLe.split (fun hc => ?_) (fun hc => ?_) | refine IfEq.t (by omega) ?_ | refine IfEq.f (by omega) ?_ | refine IfEq.split (fun hc => ?_) (fun hc => ?_) | refine Lt.wr (by omega) (by omega) fun v hv => ?_ | refine Lt.rem (by omega) (by omega) fun v hv => ?_ | refine Lt.quo (by omega) (by omega) (by omega) fun v hv => ?_ | refine Lt.len fun v hv => ?_ | refine Lt.all True.intro fun v hv => ?_ | refine Lt.to (by decide) rfl ?_ | fail)
    all_goals (try cbv)
    all_goals exact hQ _ ⟨rfl, rfl, rfl, rfl, rfl⟩
end Go.Ab
