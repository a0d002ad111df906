/-
  The laws of the stage 'ring': a ring of a list.
-/
import Derived.Test.YtleilicpggnemaaRing5
namespace Go.Ab
open Go Go.Proofs
set_option maxRecDepth 100000

structure LOfI where
  i : Int
  s : Nat → Int
  h : Int
  m : Int
  rs : List (List V)
  n : Nat

set_option maxHeartbeats 4000000 in
theorem c5 (l : List Int) (hl : l.length < 9223372036854775808) : CallsV Try.prog 5 [.sl false 1 (l.map iC)] (.bool true) [.undef] true := by
  have cf := c7
  obtain ⟨ra, ha⟩ : ∃ r, r = l.map iC := ⟨_, rfl⟩
  have sa := shR_iC l
  have la' : ra.length = l.length := by simp [ha]
  rw [← ha] at sa
  obtain ⟨b, hb⟩ : ∃ b : Bool, b = true ↔ OfOk l := by
    by_cases h : OfOk l
    · exact ⟨true, by simp [h]⟩
    · exact ⟨false, by simp [h]⟩
  obtain ⟨s0, h0, m0, e0, hr0, hz0, c0⟩ := of_all l hl b hb
  have i1 := c13 l l hl true (by simp)
  rw [← ha] at c0 i1 ⊢
  refine callsV_q hD Try.func5 ok5 rfl rfl (by simp only [List.map_cons, List.map_nil, V.sh, sa]) fun P Q hP hQ => ?_
  by_cases hc : 20 < l.length
  · repeat' (cbv; first | refine CallQ.to (hP ▸ cf) rfl (.inl rfl) ?_ | refine IfLt.t (by omega) ?_ | refine IfLt.f (by omega) ?_ | refine IfLt.split (fun hc => ?_) (fun hc => ?_) | refine IfLe.t (by omega) ?_ | refine IfLe.f (by omega) ?_ | refine IfLe.split (fun hc => ?_) (fun hc => ?_) | refine IfEq.t (by omega) ?_ | refine IfEq.f (by omega) ?_ | refine IfEq.split (fun hc => ?_) (fun hc => ?_) | refine Lt.wr (by omega) (by omega) fun v hv => ?_ | refine Lt.rem (by omega) (by omega) fun v hv => ?_ | refine Lt.quo (by omega) (by omega) (by omega) fun v hv => ?_ | refine Lt.len fun v hv => ?_ | refine Lt.all True.intro fun v hv => ?_ | refine Lt.to (by decide) rfl ?_ | fail)
    all_goals (try cbv)
    all_goals first | exact hQ _ ⟨rfl, rfl, rfl, rfl, rfl⟩ | (exfalso; omega)
  · cases b with
    | false =>
      obtain ⟨rfl, rfl⟩ := hz0 rfl
      subst e0
      repeat' (cbv; first | refine CallQ.to (hP ▸ cf) rfl (.inl rfl) ?_ | refine CallQ.to (hP ▸ c0) rfl (.inl rfl) ?_ ⟨sa, True.intro⟩ | refine IfLt.t (by omega) ?_ | refine IfLt.f (by omega) ?_ | refine IfLt.split (fun hc => ?_) (fun hc => ?_) | refine IfLe.t (by omega) ?_ | refine IfLe.f (by omega) ?_ | refine IfLe.split (fun hc => ?_) (fun hc => ?_) | refine IfEq.t (by omega) ?_ | refine IfEq.f (by omega) ?_ | refine IfEq.split (fun hc => ?_) (fun hc => ?_) | refine Lt.wr (by omega) (by omega) fun v hv => ?_ | refine Lt.rem (by omega) (by omega) fun v hv => ?_ | refine Lt.quo (by omega) (by omega) (by omega) fun v hv => ?_ | refine Lt.len fun v hv => ?_ | refine Lt.all True.intro fun v hv => ?_ | refine Lt.to (by decide) rfl ?_ | fail)
      all_goals (try cbv)
      exact hQ _ ⟨rfl, rfl, rfl, rfl, rfl⟩
    | true =>
      have r0 := hr0 rfl
      repeat' (cbv; first | refine CallQ.to (hP ▸ cf) rfl (.inl rfl) ?_ | refine CallQ.to (hP ▸ c0) rfl (.inl rfl) ?_ ⟨sa, True.intro⟩ | refine IfLt.t (by omega) ?_ | refine IfLt.f (by omega) ?_ | refine IfLt.split (fun hc => ?_) (fun hc => ?_) | refine IfLe.t (by omega) ?_ | refine IfLe.f (by omega) ?_ | refine IfLe.split (fun hc => ?_) (fun hc => ?_) | refine IfEq.t (by omega) ?_ | refine IfEq.f (by omega) ?_ | refine IfEq.split (fun hc => ?_) (fun hc => ?_) | refine Lt.wr (by omega) (by omega) fun v hv => ?_ | refine Lt.rem (by omega) (by omega) fun v hv => ?_ | refine Lt.quo (by omega) (by omega) (by omega) fun v hv => ?_ | refine Lt.len fun v hv => ?_ | refine Lt.all True.intro fun v hv => ?_ | refine Lt.to (by decide) rfl ?_ | fail)
      all_goals (try cbv)
      refine LoopQ.to (ι := LOfI) (fun p => ⟨tab .undef [(0, .sl false 1 ra), (3, .ptr 100 0), (5, .sref 110 0 p.n), (6, .ptr 101 0), (7, .int .i64 p.i)], tab .dead [(100, .box (ringC s0 h0 m0)), (101, .box (ringC p.s p.h p.m)), (110, .rows 1 p.rs)]⟩)
        (fun p => 0 ≤ p.i ∧ p.i.toNat ≤ l.length ∧ RingIs p.s p.h p.m (l.drop p.i.toNat) ∧ p.rs = (l.take p.i.toNat).map iC ∧ p.n = p.rs.length) (fun p => l.length - p.i.toNat) ⟨0, s0, h0, m0, [], 0⟩
        ⟨by show (0 : Int) ≤ 0; omega, by show (0 : Int).toNat ≤ l.length; omega, r0, rfl, rfl⟩ rfl fun p hp A hA => ?_
      obtain ⟨i, s1, h1, m1, rs, n⟩ := p
      obtain ⟨i0, i1', hr1, hrs, hn⟩ := hp
      dsimp only at i0 i1' hr1 hrs hn
      have hn' : n = i.toNat := by rw [hn, hrs]; simp; omega
      rcases (show i.toNat < l.length ∨ i.toNat = l.length by omega) with hi | hi
      · rw [List.drop_eq_getElem_cons hi] at hr1
        obtain ⟨s2, h2, m2, e2, hr2, hpop⟩ := pop_ok hr1
        obtain ⟨x, hx⟩ : ∃ x, x = l[i.toNat] := ⟨_, rfl⟩
        rw [← hx] at hpop
        repeat' (cbv; first | refine CallQ.to (hP ▸ hpop) rfl (.inl rfl) ?_ | refine Lt.all (by refine ⟨hn, ?_⟩; show (n + 1) * 8 ≤ _; omega) fun v hv => ?_ | refine IfLt.t (by omega) ?_ | refine IfLt.f (by omega) ?_ | refine IfLt.split (fun hc => ?_) (fun hc => ?_) | refine IfLe.t (by omega) ?_ | refine IfLe.f (by omega) ?_ | refine IfLe.split (fun hc => ?_) (fun hc => ?_) | refine IfEq.t (by omega) ?_ | refine IfEq.f (by omega) ?_ | refine IfEq.split (fun hc => ?_) (fun hc => ?_) | refine Lt.wr (by omega) (by omega) fun v hv => ?_ | refine Lt.rem (by omega) (by omega) fun v hv => ?_ | refine Lt.quo (by omega) (by omega) (by omega) fun v hv => ?_ | refine Lt.len fun v hv => ?_ | refine Lt.all True.intro fun v hv => ?_ | refine Lt.to (by decide) rfl ?_ | fail)
        all_goals (try cbv)
        rename_i rs' hrs' n' hn2
        refine hA ⟨v, s2, h2, m2, rs', n'⟩ _ ⟨by show 0 ≤ v; omega, by show v.toNat ≤ _; omega, ?_, ?_, ?_⟩ (by show l.length - v.toNat < l.length - i.toNat; omega) rfl
        · show RingIs s2 h2 m2 (l.drop v.toNat)
          rw [hv, show (i + 1).toNat = i.toNat + 1 by omega]; exact hr2
        · show rs' = (l.take v.toNat).map iC
          rw [hrs', hrs, hv, show (i + 1).toNat = i.toNat + 1 by omega, List.take_succ_eq_append_getElem hi, ← hx]
          simp [iC]
        · show n' = rs'.length
          rw [hn2, hrs', hn]; simp
      · rw [hi, List.drop_length] at hr1
        rw [hi, List.take_length, ← ha] at hrs
        subst hrs
        have l0 := c14 _ _ _ _ r0
        rw [← ha] at l0
        have hm1 : m1 = 0 := by have := hr1.me; simpa using this
        repeat' (cbv; first | refine CallQ.to (hP ▸ l0) rfl (.inl rfl) ?_ | refine CallQ.to (hP ▸ i1) rfl (.inl rfl) ?_ ⟨sa, sa, True.intro⟩ | refine CallQ.to (hP ▸ i1) rfl (.inr rfl) ?_ ⟨⟨rfl, hn, sa⟩, sa, True.intro⟩ | refine IfLt.t (by omega) ?_ | refine IfLt.f (by omega) ?_ | refine IfLt.split (fun hc => ?_) (fun hc => ?_) | refine IfLe.t (by omega) ?_ | refine IfLe.f (by omega) ?_ | refine IfLe.split (fun hc => ?_) (fun hc => ?_) | refine IfEq.t (by omega) ?_ | refine IfEq.f (by omega) ?_ | refine IfEq.split (fun hc => ?_) (fun hc => ?_) | refine Lt.wr (by omega) (by omega) fun v hv => ?_ | refine Lt.rem (by omega) (by omega) fun v hv => ?_ | refine Lt.quo (by omega) (by omega) (by omega) fun v hv => ?_ | refine Lt.len fun v hv => ?_ | refine Lt.all True.intro fun v hv => ?_ | refine Lt.to (by decide) rfl ?_ | fail)
        all_goals (try cbv)
        exact hQ _ ⟨rfl, rfl, rfl, rfl, rfl⟩
end Go.Ab
