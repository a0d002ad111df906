/-
  The laws of the stage 'state': calls whose answers the document fixes.
-/
import Derived.Test.YteiafekbmkbldaaK13
set_option linter.all false
namespace Go.Ab
open Go Go.Proofs
set_option maxRecDepth 100000

def p1 : List (List ID) := [[⟨0, 0⟩]]
def s1 : SD := newS p1 2
def s1n : SD := { s1 with gl := [] }
theorem fit1 : Fit s1 := newS_fit (by decide) (by intro f hf; simp [p1] at hf; subst hf; decide) 2
theorem fit1n : Fit s1n := ⟨fit1.prog, fit1.code, fit1.gs, fit1.ps, fit1.ms, by decide, fit1.w0, fit1.w1, fit1.w2, fit1.w3, fit1.ts⟩
theorem may1 : mayS s1 = true := by decide +kernel
theorem may1n : mayS s1n = false := by decide +kernel
theorem place1 : placeS s1 1 = (3, 0) := by decide +kernel
theorem queue1 : queueV s1 1 = .sl true 1 [] := by
  unfold queueV
  rw [if_neg (by decide +kernel)]
  have : queueOf (s1.ps.getD ((1 : Int).toNat - 1) default) = [] := by decide +kernel
  rw [this]; rfl
set_option maxHeartbeats 8000000 in
theorem c10 : CallsV Try.prog 10 [] (.bool true) [] true := by
  have n1 := q11 p1 (by decide) (by intro f hf; simp [p1] at hf; subst hf; decide) 2 (by decide +kernel) (by decide)
  have n2 := c11f [] (by decide) (by simp) 2 (by decide +kernel)
  have n3 := c11f [[]] (by decide) (by simp) 9 (by decide +kernel)
  have n3 : CallsV Try.prog 11 [.sl false 1 [[.nils 2]], .int .i64 9] (.tup [zeroV, .int .i64 1]) [.undef, .undef] false := n3.argsTo rfl rfl rfl fun i a a' ha ha' C u h => by
    cases i with
    | zero => cases ha; cases ha'; exact R_row_nils h
    | succ i =>
      cases i with
      | zero => cases ha; cases ha'; exact h
      | succ i => simp at ha
  have m1 := c14 s1 fit1 true may1.symm
  have m2 := c14 s1n fit1n false may1n.symm
  have l1 := c16 s1 fit1 1 (3, 0) place1.symm
  have u1 := c19 s1 fit1 1
  rw [queue1] at u1
  have o1 := q21 s1 fit1
  have e1 := c13 s1 s1 fit1 true (by simp)
  refine callsV_q hD Try.func10 ok10x rfl rfl rfl fun P Q hP hQ => ?_
  have hl1 : (0 : Int) ≤ 1 ∧ (1 : Int).toNat = ([[.int .i64 0, .int .i64 0, .int .i64 1, .int .i64 0, .int .i64 0]] : List (List V)).length := ⟨by omega, rfl⟩
  have hl8 : (0 : Int) ≤ 8 ∧ (8 : Int).toNat = (s1.ps.map pC).length := ⟨by omega, rfl⟩
  have hl0 : (0 : Int) ≤ 0 ∧ (0 : Int).toNat = ([] : List (List V)).length := ⟨by omega, rfl⟩
  try rw [← hP] at n1
  try rw [← hP] at n2
  try rw [← hP] at n3
  try rw [← hP] at m1
  try rw [← hP] at m2
  try rw [← hP] at l1
  try rw [← hP] at u1
  try rw [← hP] at o1
  try rw [← hP] at e1
  repeat' (cbv; first | refine .y ?_ | refine .n ?_ | refine .split (fun hc => ?_) fun hc => ?_ | refine EqQ.ints rfl (fun hc => ?_) fun hc => ?_ | refine .ln hl1 ?_ | refine .ln hl8 ?_ | refine .ln hl0 ?_ | (refine id (α := CallQ P _ _ _ _ _ _) ?_; first | refine CallQ.raw n1 rfl (.inl rfl) ?_ | refine CallQ.raw n2 rfl (.inl rfl) ?_ | refine CallQ.raw n3 rfl (.inl rfl) ?_ | refine CallQ.raw m1 rfl (.inl rfl) ?_ | refine CallQ.raw m2 rfl (.inl rfl) ?_ | refine CallQ.raw l1 rfl (.inl rfl) ?_ | refine CallQ.raw u1 rfl (.inl rfl) ?_ | refine CallQ.raw o1 rfl (.inl rfl) ?_ | refine CallQ.raw e1 rfl (.inl rfl) ?_) | refine .wa fun v hv => ?_ | refine .ra fun v hv => ?_ | refine .qa fun v hv => ?_ | refine .len fun v hv => ?_ | refine .all True.intro fun v hv => ?_ | refine Lt.to (by decide) rfl ?_ | (refine .au fun vr vn hvr hvn hvl => ?_; try simp only [List.length_cons, List.length_nil] at hvl) | fail)
  all_goals (try cbv)
  all_goals first
    | (refine hQ _ ?_; exact ⟨rfl, rfl, rfl, rfl, rfl⟩)
    | (exact absurd ⟨rfl, rfl, True.intro⟩ hc)
end Go.Ab
