/-
  ring: a ring's places; may a ring be?
-/
import Derived.Test.YtleilicpggnemaaRingG
import Derived.Test.YtleilicpggnemaaMachQ2
namespace Go.Ab
open Go Go.Proofs
set_option maxRecDepth 100000

/-- The cells of a ring. -/
def ringC (s : Nat → Int) (h m : Int) : List V := [.int .i64 (s 0), .int .i64 (s 1), .int .i64 (s 2), .int .i64 (s 3), .int .i64 (s 4), .int .i64 (s 5), .int .i64 (s 6), .int .i64 (s 7), .int .i64 h, .int .i64 m]
/-- A place's index. -/
def idx (h i : Int) : Nat := ((h + i) % 8).toNat
/-- May a ring be? -/
def May (s : Nat → Int) (h m : Int) : Prop :=
  0 ≤ h ∧ h < 8 ∧ 0 ≤ m ∧ m ≤ 8 ∧ ∀ i : Int, 0 ≤ i → i < 8 → (i < m → 1 ≤ s (idx h i)) ∧ (m ≤ i → s (idx h i) = 0)

theorem c17 (s : Nat → Int) (h m k : Int) (h0 : 0 ≤ h) (h1 : h < 8) (k0 : 0 ≤ k) (k1 : k ≤ 8) (j : Int) (hj : j = (h + k) % 8) : CallsV Try.prog 17 [.agg (ringC s h m), .int .i64 k] (.int .i64 j) [.undef, .undef] true := by
  refine callsV_q hD Try.func17 ok17 rfl rfl rfl fun P Q hP hQ => ?_
  repeat' (cbv; first | refine IfLt.t (by omega) ?_ | refine IfLt.f (by omega) ?_ | refine IfLt.split (fun hc => ?_) (fun hc => ?_) | refine IfLe.t (by omega) ?_ | refine IfLe.f (by omega) ?_ | refine IfLe.split (fun hc => ?_) (fun hc => ?_) | refine IfEq.t (by omega) ?_ | refine IfEq.f (by omega) ?_ | refine IfEq.split (fun hc => ?_) (fun hc => ?_) | refine Lt.wr (by omega) (by omega) fun v hv => ?_ | refine Lt.rem (by omega) (by omega) fun v hv => ?_ | refine Lt.quo (by omega) (by omega) (by omega) fun v hv => ?_ | refine Lt.len fun v hv => ?_ | refine Lt.all True.intro fun v hv => ?_ | refine Lt.to (by decide) rfl ?_ | fail)
  all_goals (try cbv)
  have : v = j := by omega
  subst this
  exact hQ _ ⟨rfl, rfl, rfl, rfl, rfl⟩

theorem eight {j : Int} (h : 0 ≤ j) (h' : j < 8) : j = 0 ∨ j = 1 ∨ j = 2 ∨ j = 3 ∨ j = 4 ∨ j = 5 ∨ j = 6 ∨ j = 7 := by omega

set_option maxHeartbeats 4000000 in
theorem c12 (s : Nat → Int) (h m : Int) (b : Bool) (hb : b = true ↔ May s h m) : CallsV Try.prog 12 [.agg (ringC s h m)] (.bool b) [.undef] true := by
  refine callsV_q hD Try.func12 ok12 rfl rfl rfl fun P Q hP hQ => ?_
  repeat' (cbv; first | refine IfLt.t (by omega) ?_ | refine IfLt.f (by omega) ?_ | refine IfLt.split (fun hc => ?_) (fun hc => ?_) | refine IfLe.t (by omega) ?_ | refine IfLe.f (by omega) ?_ | refine IfLe.split (fun hc => ?_) (fun hc => ?_) | refine IfEq.t (by omega) ?_ | refine IfEq.f (by omega) ?_ | refine IfEq.split (fun hc => ?_) (fun hc => ?_) | refine Lt.wr (by omega) (by omega) fun v hv => ?_ | refine Lt.rem (by omega) (by omega) fun v hv => ?_ | refine Lt.quo (by omega) (by omega) (by omega) fun v hv => ?_ | refine Lt.len fun v hv => ?_ | refine Lt.all True.intro fun v hv => ?_ | refine Lt.to (by decide) rfl ?_ | fail)
  all_goals (try cbv)
  · have : b = false := by cases b <;> simp_all [May]; omega
    subst this; exact hQ _ ⟨rfl, rfl, rfl, rfl, rfl⟩
  · have : b = false := by cases b <;> simp_all [May]; omega
    subst this; exact hQ _ ⟨rfl, rfl, rfl, rfl, rfl⟩
  · have : b = false := by cases b <;> simp_all [May]; omega
    subst this; exact hQ _ ⟨rfl, rfl, rfl, rfl, rfl⟩
  · have : b = false := by cases b <;> simp_all [May]; omega
    subst this; exact hQ _ ⟨rfl, rfl, rfl, rfl, rfl⟩
  · refine LoopQ.to (ι := Int) (fun i => ⟨tab .undef [(1, .ptr 100 0), (23, .int .i64 i)], tab .dead [(100, .box (ringC s h m))]⟩)
      (fun i => 0 ≤ i ∧ i ≤ 8 ∧ ∀ j : Int, 0 ≤ j → j < i → (j < m → 1 ≤ s (idx h j)) ∧ (m ≤ j → s (idx h j) = 0)) (fun i => (8 - i).toNat) 0 ⟨by omega, by omega, fun j h h' => by omega⟩ rfl fun i ⟨i0, i1, hall⟩ A hA => ?_
    repeat' (cbv; first | refine IfLt.t (by omega) ?_ | refine IfLt.f (by omega) ?_ | refine IfLt.split (fun hc => ?_) (fun hc => ?_) | refine IfLe.t (by omega) ?_ | refine IfLe.f (by omega) ?_ | refine IfLe.split (fun hc => ?_) (fun hc => ?_) | refine IfEq.t (by omega) ?_ | refine IfEq.f (by omega) ?_ | refine IfEq.split (fun hc => ?_) (fun hc => ?_) | refine Lt.wr (by omega) (by omega) fun v hv => ?_ | refine Lt.rem (by omega) (by omega) fun v hv => ?_ | refine Lt.quo (by omega) (by omega) (by omega) fun v hv => ?_ | refine Lt.len fun v hv => ?_ | refine Lt.all True.intro fun v hv => ?_ | refine Lt.to (by decide) rfl ?_ | fail)
    all_goals (try cbv)
    · have next : (i < m → 1 ≤ s (idx h i)) → (m ≤ i → s (idx h i) = 0) → ∀ j : Int, 0 ≤ j → j < i + 1 → (j < m → 1 ≤ s (idx h j)) ∧ (m ≤ j → s (idx h j) = 0) := fun a b j j0 j1 => by
        by_cases e : j = i
        · subst e; exact ⟨a, b⟩
        · exact hall j j0 (by omega)
      have no : ¬ ((i < m → 1 ≤ s (idx h i)) ∧ (m ≤ i → s (idx h i) = 0)) → b = false := fun hn => by
        cases b with
        | false => rfl
        | true => exact (hn ((hb.1 rfl).2.2.2.2 i i0 (by omega))).elim
      obtain ⟨j, hj⟩ : ∃ j, j = (h + i) % 8 := ⟨_, rfl⟩
      have hidx : idx h i = j.toNat := by rw [idx, hj]
      have hcc := c17 s h m i (by omega) (by omega) (by omega) (by omega) j hj
      rw [hidx] at next no
      rcases eight (j := j) (by omega) (by omega) with e | e | e | e | e | e | e | e <;> subst e <;> refine CallQ.to (hP ▸ hcc) rfl (.inl rfl) ?_
      all_goals
        simp only [Int.reduceToNat] at next no
        repeat' (cbv; first | refine IfLt.t (by omega) ?_ | refine IfLt.f (by omega) ?_ | refine IfLt.split (fun hc => ?_) (fun hc => ?_) | refine IfLe.t (by omega) ?_ | refine IfLe.f (by omega) ?_ | refine IfLe.split (fun hc => ?_) (fun hc => ?_) | refine IfEq.t (by omega) ?_ | refine IfEq.f (by omega) ?_ | refine IfEq.split (fun hc => ?_) (fun hc => ?_) | refine Lt.wr (by omega) (by omega) fun v hv => ?_ | refine Lt.rem (by omega) (by omega) fun v hv => ?_ | refine Lt.quo (by omega) (by omega) (by omega) fun v hv => ?_ | refine Lt.len fun v hv => ?_ | refine Lt.all True.intro fun v hv => ?_ | refine Lt.to (by decide) rfl ?_ | fail)
        all_goals (try cbv)
        all_goals first
          | exact hA _ _ ⟨by omega, by omega, by rw [hv]; exact next (by omega) (by omega)⟩ (by omega) rfl
          | (have : b = false := no (by omega)
             subst this; exact hQ _ ⟨rfl, rfl, rfl, rfl, rfl⟩)
    · have : b = true := hb.2 ⟨by omega, by omega, by omega, by omega, fun j j0 j1 => hall j j0 (by omega)⟩
      subst this; exact hQ _ ⟨rfl, rfl, rfl, rfl, rfl⟩
end Go.Ab
