/-
  The laws of the stage 'ring': a ring is a queue.
-/
import Derived.Test.YtleilicpggnemaaRing5
namespace Go.Ab
open Go Go.Proofs
set_option maxRecDepth 100000

structure QueI where
  i : Int
  s : Nat → Int
  h : Int
  m : Int
  rs : List (List V)
  p : List Int

set_option maxHeartbeats 8000000 in
theorem c3 (s : Nat → Int) (h m : Int) (l : List Int) (hl : l.length < 9223372036854775808) : CallsV Try.prog 3 [.agg (ringC s h m), .sl false 1 (l.map iC)] (.bool true) [.undef, .undef] true := by
  have cf := c7
  obtain ⟨ra, ha⟩ : ∃ r, r = l.map iC := ⟨_, rfl⟩
  have sa := shR_iC l
  have la' : ra.length = l.length := by simp [ha]
  rw [← ha] at sa
  obtain ⟨b, hb⟩ : ∃ b : Bool, b = true ↔ May s h m := by
    by_cases h : May s h m
    · exact ⟨true, by simp [h]⟩
    · exact ⟨false, by simp [h]⟩
  have cm := c8 s h m b hb
  rw [← ha]
  refine callsV_q hD Try.func3 ok3 rfl rfl (by simp only [List.map_cons, List.map_nil, V.sh, sa]; rfl) fun P Q hP hQ => ?_
  cases b with
  | false =>
    repeat' (cbv; first | refine CallQ.to (hP ▸ cf) rfl (.inl rfl) ?_ | refine CallQ.to (hP ▸ cm) rfl (.inl rfl) ?_ | refine IfLt.t (by omega) ?_ | refine IfLt.f (by omega) ?_ | refine IfLt.split (fun hc => ?_) (fun hc => ?_) | refine IfLe.t (by omega) ?_ | refine IfLe.f (by omega) ?_ | refine IfLe.split (fun hc => ?_) (fun hc => ?_) | refine IfEq.t (by omega) ?_ | refine IfEq.f (by omega) ?_ | refine IfEq.split (fun hc => ?_) (fun hc => ?_) | refine Lt.wr (by omega) (by omega) fun v hv => ?_ | refine Lt.rem (by omega) (by omega) fun v hv => ?_ | refine Lt.quo (by omega) (by omega) (by omega) fun v hv => ?_ | refine Lt.len fun v hv => ?_ | refine Lt.all True.intro fun v hv => ?_ | refine Lt.to (by decide) rfl ?_ | fail)
    all_goals (try cbv)
    all_goals exact hQ _ ⟨rfl, rfl, rfl, rfl, rfl⟩
  | true =>
    by_cases hc : 60 < l.length
    · repeat' (cbv; first | refine CallQ.to (hP ▸ cf) rfl (.inl rfl) ?_ | refine CallQ.to (hP ▸ cm) rfl (.inl rfl) ?_ | refine IfLt.t (by omega) ?_ | refine IfLt.f (by omega) ?_ | refine IfLt.split (fun hc => ?_) (fun hc => ?_) | refine IfLe.t (by omega) ?_ | refine IfLe.f (by omega) ?_ | refine IfLe.split (fun hc => ?_) (fun hc => ?_) | refine IfEq.t (by omega) ?_ | refine IfEq.f (by omega) ?_ | refine IfEq.split (fun hc => ?_) (fun hc => ?_) | refine Lt.wr (by omega) (by omega) fun v hv => ?_ | refine Lt.rem (by omega) (by omega) fun v hv => ?_ | refine Lt.quo (by omega) (by omega) (by omega) fun v hv => ?_ | refine Lt.len fun v hv => ?_ | refine Lt.all True.intro fun v hv => ?_ | refine Lt.to (by decide) rfl ?_ | fail)
      all_goals (try cbv)
      all_goals first | exact hQ _ ⟨rfl, rfl, rfl, rfl, rfl⟩ | (exfalso; omega)
    · obtain ⟨p0, r0⟩ := (hb.1 rfl).ring
      obtain ⟨rs0, hrs0⟩ : ∃ r, r = p0.map iC := ⟨_, rfl⟩
      have cl := c9 s h m p0 r0
      rw [← hrs0] at cl
      repeat' (cbv; first | refine CallQ.to (hP ▸ cf) rfl (.inl rfl) ?_ | refine CallQ.to (hP ▸ cm) rfl (.inl rfl) ?_ | refine CallQ.to (hP ▸ cl) rfl (.inl rfl) ?_ | refine IfLt.t (by omega) ?_ | refine IfLt.f (by omega) ?_ | refine IfLt.split (fun hc => ?_) (fun hc => ?_) | refine IfLe.t (by omega) ?_ | refine IfLe.f (by omega) ?_ | refine IfLe.split (fun hc => ?_) (fun hc => ?_) | refine IfEq.t (by omega) ?_ | refine IfEq.f (by omega) ?_ | refine IfEq.split (fun hc => ?_) (fun hc => ?_) | refine Lt.wr (by omega) (by omega) fun v hv => ?_ | refine Lt.rem (by omega) (by omega) fun v hv => ?_ | refine Lt.quo (by omega) (by omega) (by omega) fun v hv => ?_ | refine Lt.len fun v hv => ?_ | refine Lt.all True.intro fun v hv => ?_ | refine Lt.to (by decide) rfl ?_ | fail)
      all_goals (try cbv)
      refine LoopQ.to (ι := QueI) (fun q => ⟨tab .undef [(1, .sl false 1 ra), (2, .ptr 100 0), (5, .sl true 1 q.rs), (6, .int .i64 q.i)], tab .dead [(100, .box (ringC q.s q.h q.m))]⟩)
        (fun q => 0 ≤ q.i ∧ q.i.toNat ≤ l.length ∧ RingIs q.s q.h q.m q.p ∧ q.rs = q.p.map iC) (fun q => l.length - q.i.toNat) ⟨0, s, h, m, rs0, p0⟩
        ⟨by show (0 : Int) ≤ 0; omega, by show (0 : Int).toNat ≤ l.length; omega, r0, hrs0⟩ rfl fun q hq A hA => ?_
      obtain ⟨i, s1, h1, m1, rs, p⟩ := q
      obtain ⟨i0, i1, r1, hrs⟩ := hq
      dsimp only at i0 i1 r1 hrs
      have lrs : rs.length = p.length := by rw [hrs]; simp
      have p8 := r1.m1
      have srs := shR_iC p
      rw [← hrs] at srs
      rcases (show i.toNat < l.length ∨ i.toNat = l.length by omega) with hi | hi
      · obtain ⟨x, hx⟩ : ∃ x, x = l.getD i.toNat 0 := ⟨_, rfl⟩
        have ga : ra.getD i.toNat [] = [.int .i64 x] := by rw [ha, getD_iC hi, hx]
        clear hx
        -- what a round ends with
        have fin : ∀ (s2 : Nat → Int) (h2 m2 : Int) (p2 : List Int), RingIs s2 h2 m2 p2 →
            CallsV Try.prog 12 [.agg (ringC s2 h2 m2)] (.bool true) [.undef] true ∧ CallsV Try.prog 14 [.agg (ringC s2 h2 m2)] (.own 1 (p2.map iC)) [.undef] true ∧
            CallsV Try.prog 13 [.sl false 1 (p2.map iC), .sl false 1 (p2.map iC)] (.bool true) [.undef, .undef] true := fun s2 h2 m2 p2 r2 =>
          ⟨c12 _ _ _ true (by simp [r2.may]), c14 _ _ _ _ r2, c13 p2 p2 (by have := r2.m1; omega) true (by simp)⟩
        by_cases hx0 : 0 < x
        · by_cases h8 : p.length = 8
          · have cp := push_no r1 (v := x) (.inl h8)
            obtain ⟨d1, d2, d3⟩ := fin _ _ _ _ r1
            rw [← hrs] at d2 d3
            repeat' (cbv; first | refine CallQ.to (hP ▸ cp) rfl (.inl rfl) ?_ | refine CallQ.to (hP ▸ d1) rfl (.inl rfl) ?_ | refine CallQ.to (hP ▸ d2) rfl (.inl rfl) ?_ | refine CallQ.to (hP ▸ d3) rfl (.inl rfl) ?_ ⟨srs, srs, True.intro⟩ | refine Lt.to (⟨rfl, by omega, by omega⟩ : 1 = 1 ∧ 0 ≤ i ∧ i.toNat < ra.length) ga ?_ | refine IfLt.t (by omega) ?_ | refine IfLt.f (by omega) ?_ | refine IfLt.split (fun hc => ?_) (fun hc => ?_) | refine IfLe.t (by omega) ?_ | refine IfLe.f (by omega) ?_ | refine IfLe.split (fun hc => ?_) (fun hc => ?_) | refine IfEq.t (by omega) ?_ | refine IfEq.f (by omega) ?_ | refine IfEq.split (fun hc => ?_) (fun hc => ?_) | refine Lt.wr (by omega) (by omega) fun v hv => ?_ | refine Lt.rem (by omega) (by omega) fun v hv => ?_ | refine Lt.quo (by omega) (by omega) (by omega) fun v hv => ?_ | refine Lt.len fun v hv => ?_ | refine Lt.all True.intro fun v hv => ?_ | refine Lt.to (by decide) rfl ?_ | fail)
            all_goals (try cbv)
            exact hA ⟨v, s1, h1, m1, rs, p⟩ _ ⟨by show 0 ≤ v; omega, by show v.toNat ≤ _; omega, r1, hrs⟩ (by show l.length - v.toNat < l.length - i.toNat; omega) rfl
          · obtain ⟨s2, m2, r2, cp⟩ := push_ok r1 (v := x) (by omega) (by omega)
            obtain ⟨d1, d2, d3⟩ := fin _ _ _ _ r2
            obtain ⟨rs2, hrs2⟩ : ∃ r, r = (p ++ [x]).map iC := ⟨_, rfl⟩
            have srs2 := shR_iC (p ++ [x])
            rw [← hrs2] at d2 d3 srs2
            repeat' (cbv; first | refine CallQ.to (hP ▸ cp) rfl (.inl rfl) ?_ | refine CallQ.to (hP ▸ d1) rfl (.inl rfl) ?_ | refine CallQ.to (hP ▸ d2) rfl (.inl rfl) ?_ | refine CallQ.to (hP ▸ d3) rfl (.inl rfl) ?_ ⟨srs2, srs2, True.intro⟩ | refine Lt.to (⟨rfl, by omega, by omega⟩ : 1 = 1 ∧ 0 ≤ i ∧ i.toNat < ra.length) ga ?_ | refine Lt.to (by show rs.length * 8 ≤ 140737488355328; omega) rfl ?_ | refine Lt.to (v := rs2) (by refine ⟨hv, ?_⟩; show (_ + 1) * 8 ≤ 140737488355328; omega) (by show rs ++ _ = rs2; rw [hrs, hrs2]; simp [iC]) ?_ | refine IfLt.t (by omega) ?_ | refine IfLt.f (by omega) ?_ | refine IfLt.split (fun hc => ?_) (fun hc => ?_) | refine IfLe.t (by omega) ?_ | refine IfLe.f (by omega) ?_ | refine IfLe.split (fun hc => ?_) (fun hc => ?_) | refine IfEq.t (by omega) ?_ | refine IfEq.f (by omega) ?_ | refine IfEq.split (fun hc => ?_) (fun hc => ?_) | refine Lt.wr (by omega) (by omega) fun v hv => ?_ | refine Lt.rem (by omega) (by omega) fun v hv => ?_ | refine Lt.quo (by omega) (by omega) (by omega) fun v hv => ?_ | refine Lt.len fun v hv => ?_ | refine Lt.all True.intro fun v hv => ?_ | refine Lt.to (by decide) rfl ?_ | fail)
            all_goals (try cbv)
            exact hA ⟨v, s2, h1, m2, rs2, p ++ [x]⟩ _ ⟨by show 0 ≤ v; omega, by show v.toNat ≤ _; omega, r2, hrs2⟩ (by show l.length - v.toNat < l.length - i.toNat; omega) rfl
        · cases p with
          | nil =>
            replace lrs : rs.length = 0 := lrs
            have cp := pop_no r1
            obtain ⟨d1, d2, d3⟩ := fin _ _ _ _ r1
            rw [← hrs] at d2 d3
            repeat' (cbv; first | refine CallQ.to (hP ▸ cp) rfl (.inl rfl) ?_ | refine CallQ.to (hP ▸ d1) rfl (.inl rfl) ?_ | refine CallQ.to (hP ▸ d2) rfl (.inl rfl) ?_ | refine CallQ.to (hP ▸ d3) rfl (.inl rfl) ?_ ⟨srs, srs, True.intro⟩ | refine Lt.to (⟨rfl, by omega, by omega⟩ : 1 = 1 ∧ 0 ≤ i ∧ i.toNat < ra.length) ga ?_ | refine IfLt.t (by omega) ?_ | refine IfLt.f (by omega) ?_ | refine IfLt.split (fun hc => ?_) (fun hc => ?_) | refine IfLe.t (by omega) ?_ | refine IfLe.f (by omega) ?_ | refine IfLe.split (fun hc => ?_) (fun hc => ?_) | refine IfEq.t (by omega) ?_ | refine IfEq.f (by omega) ?_ | refine IfEq.split (fun hc => ?_) (fun hc => ?_) | refine Lt.wr (by omega) (by omega) fun v hv => ?_ | refine Lt.rem (by omega) (by omega) fun v hv => ?_ | refine Lt.quo (by omega) (by omega) (by omega) fun v hv => ?_ | refine Lt.len fun v hv => ?_ | refine Lt.all True.intro fun v hv => ?_ | refine Lt.to (by decide) rfl ?_ | fail)
            all_goals (try cbv)
            exact hA ⟨v, s1, h1, m1, rs, []⟩ _ ⟨by show 0 ≤ v; omega, by show v.toNat ≤ _; omega, r1, hrs⟩ (by show l.length - v.toNat < l.length - i.toNat; omega) rfl
          | cons y p =>
            replace lrs : rs.length = p.length + 1 := lrs
            obtain ⟨s2, h2, m2, _, r2, cp⟩ := pop_ok r1
            obtain ⟨d1, d2, d3⟩ := fin _ _ _ _ r2
            obtain ⟨rs2, hrs2⟩ : ∃ r, r = p.map iC := ⟨_, rfl⟩
            have srs2 := shR_iC p
            rw [← hrs2] at d2 d3 srs2
            have gy : rs.getD (Int.toNat 0) [] = [.int .i64 y] := by rw [hrs]; rfl
            have gt : rs.drop (Int.toNat 1) = rs2 := by rw [hrs, hrs2]; rfl
            repeat' (cbv; first | refine CallQ.to (hP ▸ cp) rfl (.inl rfl) ?_ | refine CallQ.to (hP ▸ d1) rfl (.inl rfl) ?_ | refine CallQ.to (hP ▸ d2) rfl (.inl rfl) ?_ | refine CallQ.to (hP ▸ d3) rfl (.inl rfl) ?_ ⟨srs2, srs2, True.intro⟩ | refine Lt.to (⟨rfl, by omega, by omega⟩ : 1 = 1 ∧ 0 ≤ i ∧ i.toNat < ra.length) ga ?_ | refine Lt.to (⟨rfl, by omega, by show 0 < rs.length; omega⟩ : 1 = 1 ∧ (0 : Int) ≤ 0 ∧ (0 : Int).toNat < rs.length) gy ?_ | refine Lt.to (v := rs2) (by refine ⟨by decide, ?_⟩; show (1 : Int) ≤ (rs.length : Int); omega) gt ?_ | refine IfLt.t (by omega) ?_ | refine IfLt.f (by omega) ?_ | refine IfLt.split (fun hc => ?_) (fun hc => ?_) | refine IfLe.t (by omega) ?_ | refine IfLe.f (by omega) ?_ | refine IfLe.split (fun hc => ?_) (fun hc => ?_) | refine IfEq.t (by omega) ?_ | refine IfEq.f (by omega) ?_ | refine IfEq.split (fun hc => ?_) (fun hc => ?_) | refine Lt.wr (by omega) (by omega) fun v hv => ?_ | refine Lt.rem (by omega) (by omega) fun v hv => ?_ | refine Lt.quo (by omega) (by omega) (by omega) fun v hv => ?_ | refine Lt.len fun v hv => ?_ | refine Lt.all True.intro fun v hv => ?_ | refine Lt.to (by decide) rfl ?_ | fail)
            all_goals (try cbv)
            exact hA ⟨v, s2, h2, m2, rs2, p⟩ _ ⟨by show 0 ≤ v; omega, by show v.toNat ≤ _; omega, r2, hrs2⟩ (by show l.length - v.toNat < l.length - i.toNat; omega) rfl
      · repeat' (cbv; first | refine IfLt.t (by omega) ?_ | refine IfLt.f (by omega) ?_ | refine IfLt.split (fun hc => ?_) (fun hc => ?_) | refine IfLe.t (by omega) ?_ | refine IfLe.f (by omega) ?_ | refine IfLe.split (fun hc => ?_) (fun hc => ?_) | refine IfEq.t (by omega) ?_ | refine IfEq.f (by omega) ?_ | refine IfEq.split (fun hc => ?_) (fun hc => ?_) | refine Lt.wr (by omega) (by omega) fun v hv => ?_ | refine Lt.rem (by omega) (by omega) fun v hv => ?_ | refine Lt.quo (by omega) (by omega) (by omega) fun v hv => ?_ | refine Lt.len fun v hv => ?_ | refine Lt.all True.intro fun v hv => ?_ | refine Lt.to (by decide) rfl ?_ | fail)
        all_goals (try cbv)
        exact hQ _ ⟨rfl, rfl, rfl, rfl, rfl⟩
end Go.Ab
