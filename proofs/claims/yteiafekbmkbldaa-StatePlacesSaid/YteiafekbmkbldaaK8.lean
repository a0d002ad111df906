/-
  ring: a ring's places; may a ring be?
  ring: a ring has a list; what is pushed, what is popped (in plain Lean).
  ring: what the document's own answers are; two lists, are they the same?
  The scheduler's states: data, and as abstract values.
  The document's answers: small ones, programs, timers.
  The document's answers: are two things the same? timers.
  The document's answers: are two states the same? has a state little?
  Rings of states; queues; where Gs stand: the document's answers.
  ring.All: a ring's numbers come in order, as a range sees it.
  A P's queue, and a G's status by its place: the program.
  Who waits; who is on Ms; parts of Gs, Ps, Ms: the document's answers.
-/
import Derived.RangeFuncBox
import Derived.RangeFuncLeaves
import Derived.Shelf.Abstract
import Derived.WalkKit
import Derived.OwnWalkIn
import Derived.TacticsInMore
import Derived.LoopNIn
import Derived.LoopIn
import Derived.RangeFuncNested
import Derived.RangeFuncBound
import Derived.RangeFuncCalls
import Derived.Shelf.RegionOpen
import Derived.Maps.AppendAt
import Derived.Test.YteiafekbmkbldaaK4
import Derived.Test.YteiafekbmkbldaaK5
set_option linter.all false
namespace Go.Ab
open Go Go.Proofs
set_option maxRecDepth 100000

def ringC (s : Nat → Int) (h m : Int) : List V := [.int .i64 (s 0), .int .i64 (s 1), .int .i64 (s 2), .int .i64 (s 3), .int .i64 (s 4), .int .i64 (s 5), .int .i64 (s 6), .int .i64 (s 7), .int .i64 h, .int .i64 m]
def idx (h i : Int) : Nat := ((h + i) % 8).toNat
def May (s : Nat → Int) (h m : Int) : Prop :=
  0 ≤ h ∧ h < 8 ∧ 0 ≤ m ∧ m ≤ 8 ∧ ∀ i : Int, 0 ≤ i → i < 8 → (i < m → 1 ≤ s (idx h i)) ∧ (m ≤ i → s (idx h i) = 0)

theorem c71 (s : Nat → Int) (h m k : Int) (h0 : 0 ≤ h) (h1 : h < 8) (k0 : 0 ≤ k) (k1 : k ≤ 8) (j : Int) (hj : j = (h + k) % 8) : CallsV Try.prog 71 [.agg (ringC s h m), .int .i64 k] (.int .i64 j) [.undef, .undef] true := by
  refine callsV_q hD Try.func71 ok71 rfl rfl rfl fun P Q hP hQ => ?_
  repeat' (cbv; first | refine .y ?_ | refine .n ?_ | refine .split (fun hc => ?_) fun hc => ?_ | refine EqQ.ints rfl (fun hc => ?_) fun hc => ?_ | refine .wa fun v hv => ?_ | refine .ra fun v hv => ?_ | refine .qa fun v hv => ?_ | refine .len fun v hv => ?_ | refine .all True.intro fun v hv => ?_ | refine Lt.to (by decide) rfl ?_ | (refine .au fun vr vn hvr hvn hvl => ?_; try simp only [List.length_cons, List.length_nil] at hvl) | fail)
  all_goals (try cbv)
  have : v = j := by omega
  subst this
  exact hQ _ ⟨rfl, rfl, rfl, rfl, rfl⟩

theorem eight {j : Int} (h : 0 ≤ j) (h' : j < 8) : j = 0 ∨ j = 1 ∨ j = 2 ∨ j = 3 ∨ j = 4 ∨ j = 5 ∨ j = 6 ∨ j = 7 := by omega

set_option maxHeartbeats 4000000 in
theorem c57 (s : Nat → Int) (h m : Int) (b : Bool) (hb : b = true ↔ May s h m) : CallsV Try.prog 57 [.agg (ringC s h m)] (.bool b) [.undef] true := by
  refine callsV_q hD Try.func57 ok57 rfl rfl rfl fun P Q hP hQ => ?_
  repeat' (cbv; first | refine .y ?_ | refine .n ?_ | refine .split (fun hc => ?_) fun hc => ?_ | refine EqQ.ints rfl (fun hc => ?_) fun hc => ?_ | refine .wa fun v hv => ?_ | refine .ra fun v hv => ?_ | refine .qa fun v hv => ?_ | refine .len fun v hv => ?_ | refine .all True.intro fun v hv => ?_ | refine Lt.to (by decide) rfl ?_ | (refine .au fun vr vn hvr hvn hvl => ?_; try simp only [List.length_cons, List.length_nil] at hvl) | fail)
  all_goals (try cbv)
  · have : b = false := by cases b <;> simp_all [May]; omega
    subst this; exact hQ _ ⟨rfl, rfl, rfl, rfl, rfl⟩
  · have : b = false := by cases b <;> simp_all [May]; omega
    subst this; exact hQ _ ⟨rfl, rfl, rfl, rfl, rfl⟩
  · have : b = false := by cases b <;> simp_all [May]; omega
    subst this; exact hQ _ ⟨rfl, rfl, rfl, rfl, rfl⟩
  · have : b = false := by cases b <;> simp_all [May]; omega
    subst this; exact hQ _ ⟨rfl, rfl, rfl, rfl, rfl⟩
  · refine LoopQ.to (ι := Int) (fun i => ⟨tab .undef [(1, .ptr 100 0), (23, .int .i64 i)], tab .dead [(100, .box (ringC s h m))]⟩)
      (fun i => 0 ≤ i ∧ i ≤ 8 ∧ ∀ j : Int, 0 ≤ j → j < i → (j < m → 1 ≤ s (idx h j)) ∧ (m ≤ j → s (idx h j) = 0)) (fun i => (8 - i).toNat) 0 ⟨by omega, by omega, fun j h h' => by omega⟩ rfl fun i ⟨i0, i1, hall⟩ A hA => ?_
    repeat' (cbv; first | refine .y ?_ | refine .n ?_ | refine .split (fun hc => ?_) fun hc => ?_ | refine EqQ.ints rfl (fun hc => ?_) fun hc => ?_ | refine .wa fun v hv => ?_ | refine .ra fun v hv => ?_ | refine .qa fun v hv => ?_ | refine .len fun v hv => ?_ | refine .all True.intro fun v hv => ?_ | refine Lt.to (by decide) rfl ?_ | (refine .au fun vr vn hvr hvn hvl => ?_; try simp only [List.length_cons, List.length_nil] at hvl) | fail)
    all_goals (try cbv)
    · have next : (i < m → 1 ≤ s (idx h i)) → (m ≤ i → s (idx h i) = 0) → ∀ j : Int, 0 ≤ j → j < i + 1 → (j < m → 1 ≤ s (idx h j)) ∧ (m ≤ j → s (idx h j) = 0) := fun a b j j0 j1 => by
        by_cases e : j = i
        · subst e; exact ⟨a, b⟩
        · exact hall j j0 (by omega)
      have no : ¬ ((i < m → 1 ≤ s (idx h i)) ∧ (m ≤ i → s (idx h i) = 0)) → b = false := fun hn => by
        cases b with
        | false => rfl
        | true => exact (hn ((hb.1 rfl).2.2.2.2 i i0 (by omega))).elim
      obtain ⟨j, hj⟩ : ∃ j, j = (h + i) % 8 := ⟨_, rfl⟩
      have hidx : idx h i = j.toNat := by rw [idx, hj]
      have hcc := c71 s h m i (by omega) (by omega) (by omega) (by omega) j hj
      rw [hidx] at next no
      rcases eight (j := j) (by omega) (by omega) with e | e | e | e | e | e | e | e <;> subst e <;> refine CallQ.to (hP ▸ hcc) rfl (.inl rfl) ?_
      all_goals
        simp only [Int.reduceToNat] at next no
        repeat' (cbv; first | refine .y ?_ | refine .n ?_ | refine .split (fun hc => ?_) fun hc => ?_ | refine EqQ.ints rfl (fun hc => ?_) fun hc => ?_ | refine .wa fun v hv => ?_ | refine .ra fun v hv => ?_ | refine .qa fun v hv => ?_ | refine .len fun v hv => ?_ | refine .all True.intro fun v hv => ?_ | refine Lt.to (by decide) rfl ?_ | (refine .au fun vr vn hvr hvn hvl => ?_; try simp only [List.length_cons, List.length_nil] at hvl) | fail)
        all_goals (try cbv)
        all_goals first
          | exact hA _ _ ⟨by omega, by omega, by rw [hv]; exact next (by omega) (by omega)⟩ (by omega) rfl
          | (have : b = false := no (by omega)
             subst this; exact hQ _ ⟨rfl, rfl, rfl, rfl, rfl⟩)
    · have : b = true := hb.2 ⟨by omega, by omega, by omega, by omega, fun j j0 j1 => hall j j0 (by omega)⟩
      subst this; exact hQ _ ⟨rfl, rfl, rfl, rfl, rfl⟩
end Go.Ab

namespace Go.Ab
open Go Go.Proofs
set_option maxRecDepth 100000

structure RingIs (s : Nat → Int) (h m : Int) (l : List Int) : Prop where
  h0 : 0 ≤ h
  h1 : h < 8
  m1 : l.length ≤ 8
  me : m = l.length
  pos : ∀ x ∈ l, 1 ≤ x
  at' : ∀ j : Nat, j < 8 → s j = l.getD ((j - h + 8) % 8).toNat 0

theorem getD_pos {l : List Int} (hp : ∀ x ∈ l, 1 ≤ x) {k : Nat} (h : k < l.length) : 1 ≤ l.getD k 0 := by
  rw [List.getD_eq_getElem?_getD, List.getElem?_eq_getElem h]
  exact hp _ (List.getElem_mem h)
theorem getD_zero {l : List Int} {k : Nat} (h : l.length ≤ k) : l.getD k 0 = 0 := by
  rw [List.getD_eq_getElem?_getD, List.getElem?_eq_none h]; rfl

theorem RingIs.idx {s : Nat → Int} {h m : Int} {l : List Int} (r : RingIs s h m l) {i : Int} (i0 : 0 ≤ i) (i1 : i < 8) : s (idx h i) = l.getD i.toNat 0 := by
  have h0 := r.h0
  have h1 := r.h1
  have hlt : Go.Ab.idx h i < 8 := by unfold Go.Ab.idx; omega
  rw [r.at' _ hlt]
  congr 1
  unfold Go.Ab.idx; omega

theorem RingIs.may {s : Nat → Int} {h m : Int} {l : List Int} (r : RingIs s h m l) : May s h m := by
  have h1 := r.m1
  have h2 := r.me
  refine ⟨r.h0, r.h1, by omega, by omega, fun i i0 i1 => ?_⟩
  rw [r.idx i0 i1]
  exact ⟨fun e => getD_pos r.pos (by omega), fun e => getD_zero (by omega)⟩

theorem May.ring {s : Nat → Int} {h m : Int} (r : May s h m) : ∃ l, RingIs s h m l := by
  obtain ⟨h0, h1, m0, m1, hall⟩ := r
  refine ⟨(List.range m.toNat).map fun i : Nat => s (idx h (i : Int)), h0, h1, by simp; omega, by simp; omega, fun x hx => ?_, fun j hj => ?_⟩
  · simp only [List.mem_map, List.mem_range] at hx
    obtain ⟨i, hi, rfl⟩ := hx
    exact (hall i (by omega) (by omega)).1 (by omega)
  · have e : idx h ((j - h + 8) % 8) = j := by unfold idx; omega
    by_cases c : (j - h + 8) % 8 < m
    · rw [List.getD_eq_getElem?_getD, List.getElem?_map, List.getElem?_range (by omega)]
      simp only [Option.map_some, Option.getD_some]
      rw [show (((((j : Int) - h + 8) % 8).toNat : Nat) : Int) = (j - h + 8) % 8 by omega, e]
    · rw [getD_zero (by simp; omega), ← e]
      exact (hall ((j - h + 8) % 8) (by omega) (by omega)).2 (by omega)

theorem RingIs.nil : RingIs (fun _ => 0) 0 0 [] := ⟨by omega, by omega, by simp, by simp, by simp, fun j hj => by simp⟩

theorem ringC_congr {s s' : Nat → Int} {h m : Int} (e : ∀ j, j < 8 → s j = s' j) : ringC s h m = ringC s' h m := by
  simp only [ringC, e 0 (by omega), e 1 (by omega), e 2 (by omega), e 3 (by omega), e 4 (by omega), e 5 (by omega), e 6 (by omega), e 7 (by omega)]

theorem RingIs.push {s : Nat → Int} {h m v : Int} {l : List Int} (r : RingIs s h m l) (hl : l.length < 8) (hv : 1 ≤ v) :
    RingIs (fun j => if j = Go.Ab.idx h m then v else s j) h (m + 1) (l ++ [v]) := by
  have h0 := r.h0
  have h1 := r.h1
  have me := r.me
  refine ⟨r.h0, r.h1, by simp; omega, by simp; omega, fun x hx => ?_, fun j hj => ?_⟩
  · rcases List.mem_append.1 hx with hx | hx
    · exact r.pos x hx
    · simp at hx; omega
  · by_cases e : j = Go.Ab.idx h m
    · rw [if_pos e]
      have : ((j - h + 8) % 8).toNat = l.length := by rw [e]; unfold Go.Ab.idx; omega
      rw [this]; simp
    · rw [if_neg e, r.at' j hj]
      have hne : ((j - h + 8) % 8).toNat ≠ l.length := fun e' => e (by unfold Go.Ab.idx; omega)
      by_cases c : ((j - h + 8) % 8).toNat < l.length
      · rw [List.getD_eq_getElem?_getD, List.getD_eq_getElem?_getD, List.getElem?_append_left c]
      · rw [getD_zero (by omega), getD_zero (by simp; omega)]

theorem RingIs.pop {s : Nat → Int} {h m x : Int} {l : List Int} (r : RingIs s h m (x :: l)) :
    RingIs (fun j => if j = h.toNat then 0 else s j) ((h + 1) % 8) (m - 1) l ∧ x = s h.toNat := by
  have h0 := r.h0
  have h1 := r.h1
  have me := r.me
  have m1 := r.m1
  simp only [List.length_cons] at me m1
  refine ⟨⟨by omega, by omega, by omega, by omega, fun y hy => r.pos y (by simp [hy]), fun j hj => ?_⟩, ?_⟩
  · by_cases e : j = h.toNat
    · rw [if_pos e, getD_zero (by omega)]
    · rw [if_neg e, r.at' j hj]
      have : ((j - h + 8) % 8).toNat = ((j - (h + 1) % 8 + 8) % 8).toNat + 1 := by omega
      rw [this]; simp
  · rw [r.at' _ (by omega), show (((h.toNat : Nat) : Int) - h + 8) % 8 = 0 by omega]; rfl

end Go.Ab

namespace Go.Ab
open Go Go.Proofs
set_option maxRecDepth 100000

theorem may_iff {s : Nat → Int} {h m : Int} : May s h m ↔ 0 ≤ h ∧ h < 8 ∧ 0 ≤ m ∧ m ≤ 8 ∧ ∀ j : Int, 0 ≤ j → j < 8 → ((j - h + 8) % 8 < m → 1 ≤ s j.toNat) ∧ (m ≤ (j - h + 8) % 8 → s j.toNat = 0) := by
  constructor
  · rintro ⟨h0, h1, m0, m1, hall⟩
    refine ⟨h0, h1, m0, m1, fun j j0 j1 => ?_⟩
    have := hall ((j - h + 8) % 8) (by omega) (by omega)
    rwa [show idx h ((j - h + 8) % 8) = j.toNat by unfold idx; omega] at this
  · rintro ⟨h0, h1, m0, m1, hall⟩
    refine ⟨h0, h1, m0, m1, fun i i0 i1 => ?_⟩
    have := hall (idx h i) (by omega) (by unfold idx; omega)
    rw [show ((idx h i : Int) - h + 8) % 8 = i by unfold idx; omega] at this
    simpa using this

set_option maxHeartbeats 4000000 in
theorem c62 (s : Nat → Int) (h m : Int) (b : Bool) (hb : b = true ↔ May s h m) : CallsV Try.prog 62 [.agg (ringC s h m)] (.bool b) [.undef] true := by
  rw [may_iff] at hb
  refine callsV_q hD Try.func62 ok62 rfl rfl rfl fun P Q hP hQ => ?_
  repeat' (cbv; first | refine .y ?_ | refine .n ?_ | refine .split (fun hc => ?_) fun hc => ?_ | refine EqQ.ints rfl (fun hc => ?_) fun hc => ?_ | refine .wa fun v hv => ?_ | refine .ra fun v hv => ?_ | refine .qa fun v hv => ?_ | refine .len fun v hv => ?_ | refine .all True.intro fun v hv => ?_ | refine Lt.to (by decide) rfl ?_ | (refine .au fun vr vn hvr hvn hvl => ?_; try simp only [List.length_cons, List.length_nil] at hvl) | fail)
  all_goals (try cbv)
  · have : b = false := by cases b <;> simp_all; omega
    subst this; exact hQ _ ⟨rfl, rfl, rfl, rfl, rfl⟩
  · have : b = false := by cases b <;> simp_all; omega
    subst this; exact hQ _ ⟨rfl, rfl, rfl, rfl, rfl⟩
  · have : b = false := by cases b <;> simp_all; omega
    subst this; exact hQ _ ⟨rfl, rfl, rfl, rfl, rfl⟩
  · have : b = false := by cases b <;> simp_all; omega
    subst this; exact hQ _ ⟨rfl, rfl, rfl, rfl, rfl⟩
  · refine LoopQ.to (ι := Int) (fun i => ⟨tab .undef [(1, .ptr 100 0), (3, .int .i64 i)], tab .dead [(100, .box (ringC s h m))]⟩)
      (fun i => 0 ≤ i ∧ i ≤ 8 ∧ ∀ j : Int, 0 ≤ j → j < i → ((j - h + 8) % 8 < m → 1 ≤ s j.toNat) ∧ (m ≤ (j - h + 8) % 8 → s j.toNat = 0)) (fun i => (8 - i).toNat) 0 ⟨by omega, by omega, fun j h h' => by omega⟩ rfl fun i ⟨i0, i1, hall⟩ A hA => ?_
    have next : ((i - h + 8) % 8 < m → 1 ≤ s i.toNat) → (m ≤ (i - h + 8) % 8 → s i.toNat = 0) → ∀ j : Int, 0 ≤ j → j < i + 1 → ((j - h + 8) % 8 < m → 1 ≤ s j.toNat) ∧ (m ≤ (j - h + 8) % 8 → s j.toNat = 0) := fun a b j j0 j1 => by
        by_cases e : j = i
        · subst e; exact ⟨a, b⟩
        · exact hall j j0 (by omega)
    have no : i < 8 → ¬ (((i - h + 8) % 8 < m → 1 ≤ s i.toNat) ∧ (m ≤ (i - h + 8) % 8 → s i.toNat = 0)) → b = false := fun i8 hn => by
        cases b with
        | false => rfl
        | true => exact (hn ((hb.1 rfl).2.2.2.2 i i0 i8)).elim
    rcases (show i = 8 ∨ i < 8 by omega) with e | i8
    · subst e
      repeat' (cbv; first | refine .y ?_ | refine .n ?_ | refine .split (fun hc => ?_) fun hc => ?_ | refine EqQ.ints rfl (fun hc => ?_) fun hc => ?_ | refine .wa fun v hv => ?_ | refine .ra fun v hv => ?_ | refine .qa fun v hv => ?_ | refine .len fun v hv => ?_ | refine .all True.intro fun v hv => ?_ | refine Lt.to (by decide) rfl ?_ | (refine .au fun vr vn hvr hvn hvl => ?_; try simp only [List.length_cons, List.length_nil] at hvl) | fail)
      all_goals (try cbv)
      have : b = true := hb.2 ⟨by omega, by omega, by omega, by omega, fun j j0 j1 => hall j j0 (by omega)⟩
      subst this; exact hQ _ ⟨rfl, rfl, rfl, rfl, rfl⟩
    · clear hall
      rcases eight (j := i) (by omega) (by omega) with e | e | e | e | e | e | e | e <;> subst e
      all_goals
        simp only [Int.reduceToNat] at next no
        repeat' (cbv; first | refine .y ?_ | refine .n ?_ | refine .split (fun hc => ?_) fun hc => ?_ | refine EqQ.ints rfl (fun hc => ?_) fun hc => ?_ | refine .wa fun v hv => ?_ | refine .ra fun v hv => ?_ | refine .qa fun v hv => ?_ | refine .len fun v hv => ?_ | refine .all True.intro fun v hv => ?_ | refine Lt.to (by decide) rfl ?_ | (refine .au fun vr vn hvr hvn hvl => ?_; try simp only [List.length_cons, List.length_nil] at hvl) | fail)
        all_goals (try cbv)
        all_goals first
          | exact hA _ _ ⟨by omega, by omega, by rw [hv]; exact next (by omega) (by omega)⟩ (by omega) rfl
          | (have : b = false := no (by omega) (by omega)
             subst this; exact hQ _ ⟨rfl, rfl, rfl, rfl, rfl⟩)

def iC (x : Int) : List V := [.int .i64 x]
theorem getD_iC {l : List Int} {k : Nat} (h : k < l.length) : (l.map iC).getD k [] = [.int .i64 (l.getD k 0)] := by
  simp [List.getD_eq_getElem?_getD, List.getElem?_eq_getElem h, iC]
theorem shR_match (ra : List (List V)) : (match ra with | [] => [] | r :: l => V.shL r :: V.shR l) = V.shR ra := by cases ra <;> rfl
theorem shR_iC (l : List Int) : V.shR (l.map iC) = l.map iC := by
  induction l with
  | nil => rfl
  | cons x l ih => simp only [List.map_cons, V.shR, ih]; rfl

set_option maxHeartbeats 4000000 in
theorem c18 (a b : List Int) (la : a.length < 9223372036854775808) (t : Bool) (ht : t = true ↔ a = b) : CallsV Try.prog 18 [.sl false 1 (a.map iC), .sl false 1 (b.map iC)] (.bool t) [.undef, .undef] true := by
  obtain ⟨ra, ha⟩ : ∃ r, r = a.map iC := ⟨_, rfl⟩
  obtain ⟨rb, hb⟩ : ∃ r, r = b.map iC := ⟨_, rfl⟩
  have sa := shR_iC a
  have sb := shR_iC b
  have la' : ra.length = a.length := by simp [ha]
  have lb' : rb.length = b.length := by simp [hb]
  rw [← ha] at sa
  rw [← hb] at sb
  rw [← ha, ← hb]
  refine callsV_q hD Try.func18 ok18 rfl rfl (by simp only [List.map_cons, List.map_nil, V.sh, sa, sb]) fun P Q hP hQ => ?_
  repeat' (cbv; first | refine .y ?_ | refine .n ?_ | refine .split (fun hc => ?_) fun hc => ?_ | refine EqQ.ints rfl (fun hc => ?_) fun hc => ?_ | refine .wa fun v hv => ?_ | refine .ra fun v hv => ?_ | refine .qa fun v hv => ?_ | refine .len fun v hv => ?_ | refine .all True.intro fun v hv => ?_ | refine Lt.to (by decide) rfl ?_ | (refine .au fun vr vn hvr hvn hvl => ?_; try simp only [List.length_cons, List.length_nil] at hvl) | fail)
  all_goals (try cbv)
  · have hl : a.length = b.length := by omega
    refine LoopQ.to (ι := Int) (fun i => ⟨tab .undef [(0, .sl false 1 ra), (1, .sl false 1 rb), (5, .int .i64 i)], tab .dead []⟩)
      (fun i => 0 ≤ i ∧ i.toNat ≤ a.length ∧ ∀ j : Nat, j < i.toNat → a.getD j 0 = b.getD j 0) (fun i => a.length - i.toNat) 0 ⟨by omega, by omega, fun j h => by omega⟩ rfl fun i ⟨i0, i1, hall⟩ A hA => ?_
    have ga : i.toNat < a.length → ra.getD i.toNat [] = [.int .i64 (a.getD i.toNat 0)] := fun h => by rw [ha, getD_iC h]
    have gb : i.toNat < b.length → rb.getD i.toNat [] = [.int .i64 (b.getD i.toNat 0)] := fun h => by rw [hb, getD_iC h]
    obtain ⟨xa, hxa⟩ : ∃ x, x = a.getD i.toNat 0 := ⟨_, rfl⟩
    obtain ⟨xb, hxb⟩ : ∃ x, x = b.getD i.toNat 0 := ⟨_, rfl⟩
    rw [← hxa] at ga
    rw [← hxb] at gb
    repeat' (cbv; first | refine .y ?_ | refine .n ?_ | refine .split (fun hc => ?_) fun hc => ?_ | refine EqQ.ints rfl (fun hc => ?_) fun hc => ?_ | refine Lt.to (⟨rfl, by omega, by omega⟩ : 1 = 1 ∧ 0 ≤ i ∧ i.toNat < ra.length) (ga (by omega)) ?_ | refine Lt.to (⟨rfl, by omega, by omega⟩ : 1 = 1 ∧ 0 ≤ i ∧ i.toNat < rb.length) (gb (by omega)) ?_ | refine .wa fun v hv => ?_ | refine .ra fun v hv => ?_ | refine .qa fun v hv => ?_ | refine .len fun v hv => ?_ | refine .all True.intro fun v hv => ?_ | refine Lt.to (by decide) rfl ?_ | (refine .au fun vr vn hvr hvn hvl => ?_; try simp only [List.length_cons, List.length_nil] at hvl) | fail)
    all_goals (try cbv)
    · exact hA _ _ ⟨by omega, by omega, fun j hj => by
        by_cases e : j < i.toNat
        · exact hall j e
        · have : j = i.toNat := by omega
          subst this; omega⟩ (by omega) rfl
    · have : t = false := by
        cases t with
        | false => rfl
        | true => have := ht.1 rfl; subst this; omega
      subst this; exact hQ _ ⟨rfl, rfl, rfl, rfl, rfl⟩
    · have : t = true := ht.2 (List.ext_getElem hl fun j h1 h2 => by
        have := hall j (by omega)
        rwa [List.getD_eq_getElem?_getD, List.getD_eq_getElem?_getD, List.getElem?_eq_getElem h1, List.getElem?_eq_getElem h2] at this)
      subst this; exact hQ _ ⟨rfl, rfl, rfl, rfl, rfl⟩
  · have : t = false := by
      cases t with
      | false => rfl
      | true => have := ht.1 rfl; subst this; omega
    subst this; exact hQ _ ⟨rfl, rfl, rfl, rfl, rfl⟩

theorem fresh_iC {l : List Int} : ∀ x, x ∈ l → ∀ y, y ∈ iC x → y.fresh = true := fun x _ y hy => by
  simp only [iC, List.mem_singleton] at hy; subst hy; rfl

theorem fresh_take {k : Nat} {l : List Int} : ∀ x, x ∈ List.take k (List.map iC l) → ∀ y, y ∈ x → y.fresh = true := fun x hx y hy => by
  obtain ⟨z, _, rfl⟩ := List.mem_map.1 (List.mem_of_mem_take hx)
  simp only [iC, List.mem_singleton] at hy; subst hy; rfl

theorem take_next {l : List Int} {k : Nat} (h : k < l.length) : l.take (k + 1) = l.take k ++ [l.getD k 0] := by
  rw [List.take_succ_eq_append_getElem h]; simp [List.getD_eq_getElem?_getD, List.getElem?_eq_getElem h]

set_option maxHeartbeats 4000000 in
theorem c63 (s : Nat → Int) (h m : Int) (l : List Int) (r : RingIs s h m l) : CallsV Try.prog 63 [.agg (ringC s h m)] (.own 1 (l.map iC)) [.undef] true := by
  refine callsV_q hD Try.func63 ok63 rfl rfl rfl fun P Q hP hQ => ?_
  have hmay := c62 s h m true (by simp [r.may])
  have h0 := r.h0
  have h1 := r.h1
  have m0 : 0 ≤ m := by have := r.me; omega
  have me : m.toNat = l.length := by have := r.me; omega
  have m1 := r.m1
  repeat' (cbv; first | refine .y ?_ | refine .n ?_ | refine .split (fun hc => ?_) fun hc => ?_ | refine EqQ.ints rfl (fun hc => ?_) fun hc => ?_ | refine .wa fun v hv => ?_ | refine .ra fun v hv => ?_ | refine .qa fun v hv => ?_ | refine .len fun v hv => ?_ | refine .all True.intro fun v hv => ?_ | refine Lt.to (by decide) rfl ?_ | (refine .au fun vr vn hvr hvn hvl => ?_; try simp only [List.length_cons, List.length_nil] at hvl) | fail)
  all_goals (try cbv)
  refine LoopQ.to (ι := Int × List (List V) × Nat) (fun p => ⟨tab .undef [(1, .ptr 100 0), (3, .sref 101 0 p.2.2), (4, .int .i64 p.1)], tab .dead [(100, .box (ringC s h m)), (101, .rows 1 p.2.1)]⟩)
    (fun p => 0 ≤ p.1 ∧ p.1 ≤ m ∧ p.2.1 = (l.take p.1.toNat).map iC ∧ p.2.2 = p.2.1.length) (fun p => (m - p.1).toNat) (0, [], 0) ⟨by omega, by omega, by simp, rfl⟩ rfl fun ⟨i, rs, n⟩ ⟨i0, i1, hrs, hn⟩ A hA => ?_
  simp only at i0 i1 hrs hn
  have hn' : n = i.toNat := by rw [hn, hrs]; simp; omega
  try rw [← hP] at hmay
  repeat' (cbv; first | refine .y ?_ | refine .n ?_ | refine .split (fun hc => ?_) fun hc => ?_ | refine EqQ.ints rfl (fun hc => ?_) fun hc => ?_ | refine .go hmay ?_ | refine .wa fun v hv => ?_ | refine .ra fun v hv => ?_ | refine .qa fun v hv => ?_ | refine .len fun v hv => ?_ | refine .all True.intro fun v hv => ?_ | refine Lt.to (by decide) rfl ?_ | (refine .au fun vr vn hvr hvn hvl => ?_; try simp only [List.length_cons, List.length_nil] at hvl) | fail)
  all_goals (try cbv)
  · have hrl : rs.length = i.toNat := by omega
    obtain ⟨x, hx⟩ : ∃ x, x = l.getD i.toNat 0 := ⟨_, rfl⟩
    have hsx : s v.toNat = x := by rw [show v.toNat = idx h i by unfold idx; omega, r.idx (by omega) (by omega), hx]
    rcases eight (j := v) (by omega) (by omega) with e | e | e | e | e | e | e | e <;> subst e
    all_goals
      simp only [Int.reduceToNat] at hsx
      repeat' (cbv; first | refine .y ?_ | refine .n ?_ | refine .split (fun hc => ?_) fun hc => ?_ | refine EqQ.ints rfl (fun hc => ?_) fun hc => ?_ | refine .wa fun v hv => ?_ | refine .ra fun v hv => ?_ | refine .qa fun v hv => ?_ | refine .len fun v hv => ?_ | refine .all True.intro fun v hv => ?_ | refine Lt.to (by decide) rfl ?_ | (refine .au fun vr vn hvr hvn hvl => ?_; try simp only [List.length_cons, List.length_nil] at hvl) | fail)
      all_goals (try cbv)
      refine hA (v, vr, vn) _ ⟨by show 0 ≤ v; omega, by show v ≤ m; omega, ?_, ?_⟩ (by show (m - v).toNat < (m - i).toNat; omega) rfl
      · show vr = (l.take v.toNat).map iC
        rw [hvr, hsx, hrs, hx, hv, show (i + 1).toNat = i.toNat + 1 by omega, take_next (by omega)]
        simp [iC]
      · exact hvn
  · have hi : i.toNat = l.length := by omega
    rw [hi, List.take_length] at hrs
    subst hn hrs
    exact hQ _ ⟨by simp [t63, pack, RV.ev, resG, giveC, tab], rfl, by simp [t63, RV.ev, giveC, tab, V.notTup, V.cells, okGood]; exact fresh_iC, rfl, rfl⟩
end Go.Ab

namespace Go.Ab
open Go Go.Proofs
set_option maxRecDepth 100000

structure ID where
  d : Int
  a : Int
  deriving DecidableEq, Inhabited
structure GD where
  fn : Int
  pc : Int
  st : Int
  m : Int
  sq : Int
  deriving DecidableEq, Inhabited
structure RD where
  b0 : Int
  b1 : Int
  b2 : Int
  b3 : Int
  b4 : Int
  b5 : Int
  b6 : Int
  b7 : Int
  h : Int
  n : Int
  deriving DecidableEq, Inhabited
structure PD where
  m : Int
  nx : Int
  r : RD
  sq : Int
  deriving DecidableEq, Inhabited
structure MD where
  p : Int
  g : Int
  deriving DecidableEq, Inhabited
structure TD where
  t : Int
  g : Int
  deriving DecidableEq, Inhabited
structure SD where
  prog : List (List ID)
  gs : List GD
  ps : List PD
  ms : List MD
  gl : List Int
  c0 : Int
  c1 : Int
  c2 : Int
  c3 : Int
  w0 : List Int
  w1 : List Int
  w2 : List Int
  w3 : List Int
  ts : List TD
  ck : Int
  pr : Int
  deriving DecidableEq, Inhabited

def jC (x : ID) : List V := [.int .i64 x.d, .int .i64 x.a]
def fC (f : List ID) : List V := [.sl false 2 (f.map jC)]
def gC (x : GD) : List V := [.int .i64 x.fn, .int .i64 x.pc, .int .i64 x.st, .int .i64 x.m, .int .i64 x.sq]
def rC (x : RD) : List V := [.int .i64 x.b0, .int .i64 x.b1, .int .i64 x.b2, .int .i64 x.b3, .int .i64 x.b4, .int .i64 x.b5, .int .i64 x.b6, .int .i64 x.b7, .int .i64 x.h, .int .i64 x.n]
def pC (x : PD) : List V := [.int .i64 x.m, .int .i64 x.nx, .int .i64 x.r.b0, .int .i64 x.r.b1, .int .i64 x.r.b2, .int .i64 x.r.b3, .int .i64 x.r.b4, .int .i64 x.r.b5, .int .i64 x.r.b6, .int .i64 x.r.b7, .int .i64 x.r.h, .int .i64 x.r.n, .int .i64 x.sq]
def mC (x : MD) : List V := [.int .i64 x.p, .int .i64 x.g]
def tC (x : TD) : List V := [.int .i64 x.t, .int .i64 x.g]

def stL (rp rg rq rm rl : List (List V)) (c0 c1 c2 c3 : Int) (w0 w1 w2 w3 rt : List (List V)) (ck pr : Int) : List V :=
  [.sl false 1 rp, .sl false 5 rg, .sl false 13 rq, .sl false 2 rm, .sl false 1 rl, .int .i64 c0, .int .i64 c1, .int .i64 c2, .int .i64 c3, .sl false 1 w0, .sl false 1 w1, .sl false 1 w2, .sl false 1 w3, .sl false 2 rt, .int .i64 ck, .int .i64 pr]
def stC (s : SD) : List V := stL (s.prog.map fC) (s.gs.map gC) (s.ps.map pC) (s.ms.map mC) (s.gl.map iC) s.c0 s.c1 s.c2 s.c3 (s.w0.map iC) (s.w1.map iC) (s.w2.map iC) (s.w3.map iC) (s.ts.map tC) s.ck s.pr
def stO (s : SD) : List V :=
  [.own 1 (s.prog.map fC), .own 5 (s.gs.map gC), .own 13 (s.ps.map pC), .own 2 (s.ms.map mC), .own 1 (s.gl.map iC), .int .i64 s.c0, .int .i64 s.c1, .int .i64 s.c2, .int .i64 s.c3, .own 1 (s.w0.map iC), .own 1 (s.w1.map iC), .own 1 (s.w2.map iC), .own 1 (s.w3.map iC), .own 2 (s.ts.map tC), .int .i64 s.ck, .int .i64 s.pr]

theorem shR_map {α : Type} (f : α → List V) (h : ∀ x, V.shL (f x) = f x) (l : List α) : V.shR (l.map f) = l.map f := by
  induction l with
  | nil => rfl
  | cons x l ih => simp only [List.map_cons, V.shR, ih, h]
theorem shR_jC (l : List ID) : V.shR (l.map jC) = l.map jC := shR_map jC (fun _ => rfl) l
theorem shR_gC (l : List GD) : V.shR (l.map gC) = l.map gC := shR_map gC (fun _ => rfl) l
theorem shR_pC (l : List PD) : V.shR (l.map pC) = l.map pC := shR_map pC (fun _ => rfl) l
theorem shR_mC (l : List MD) : V.shR (l.map mC) = l.map mC := shR_map mC (fun _ => rfl) l
theorem shR_tC (l : List TD) : V.shR (l.map tC) = l.map tC := shR_map tC (fun _ => rfl) l
theorem shR_fC (l : List (List ID)) : V.shR (l.map fC) = l.map fC := shR_map fC (fun f => by
  have := shR_jC f
  simp only [fC, V.shL, V.sh, this]) l

theorem stR (prog : List (List ID)) (gs : List GD) (ps : List PD) (ms : List MD) (gl : List Int) (c0 c1 c2 c3 : Int) (w0 w1 w2 w3 : List Int) (ts : List TD) (ck pr : Int) :
    ∃ rp rg rq rm rl r0 r1 r2 r3 rt : List (List V), (rp = prog.map fC ∧ V.shR rp = rp ∧ rp.length = prog.length) ∧ (rg = gs.map gC ∧ V.shR rg = rg ∧ rg.length = gs.length) ∧ (rq = ps.map pC ∧ V.shR rq = rq ∧ rq.length = ps.length) ∧ (rm = ms.map mC ∧ V.shR rm = rm ∧ rm.length = ms.length) ∧ (rl = gl.map iC ∧ V.shR rl = rl ∧ rl.length = gl.length) ∧ (r0 = w0.map iC ∧ V.shR r0 = r0 ∧ r0.length = w0.length) ∧ (r1 = w1.map iC ∧ V.shR r1 = r1 ∧ r1.length = w1.length) ∧ (r2 = w2.map iC ∧ V.shR r2 = r2 ∧ r2.length = w2.length) ∧ (r3 = w3.map iC ∧ V.shR r3 = r3 ∧ r3.length = w3.length) ∧ (rt = ts.map tC ∧ V.shR rt = rt ∧ rt.length = ts.length) ∧
      stC ⟨prog, gs, ps, ms, gl, c0, c1, c2, c3, w0, w1, w2, w3, ts, ck, pr⟩ = stL rp rg rq rm rl c0 c1 c2 c3 r0 r1 r2 r3 rt ck pr :=
  ⟨_, _, _, _, _, _, _, _, _, _, ⟨rfl, shR_fC prog, List.length_map _⟩, ⟨rfl, shR_gC gs, List.length_map _⟩, ⟨rfl, shR_pC ps, List.length_map _⟩, ⟨rfl, shR_mC ms, List.length_map _⟩, ⟨rfl, shR_iC gl, List.length_map _⟩, ⟨rfl, shR_iC w0, List.length_map _⟩, ⟨rfl, shR_iC w1, List.length_map _⟩, ⟨rfl, shR_iC w2, List.length_map _⟩, ⟨rfl, shR_iC w3, List.length_map _⟩, ⟨rfl, shR_tC ts, List.length_map _⟩, rfl⟩

theorem fr_iC (l : List Int) : okRows true (l.map iC) = true := okRows_map iC (fun _ => rfl) l
theorem fr_jC (l : List ID) : okRows true (l.map jC) = true := okRows_map jC (fun _ => rfl) l
theorem fr_gC (l : List GD) : okRows true (l.map gC) = true := okRows_map gC (fun _ => rfl) l
theorem fr_pC (l : List PD) : okRows true (l.map pC) = true := okRows_map pC (fun _ => rfl) l
theorem fr_mC (l : List MD) : okRows true (l.map mC) = true := okRows_map mC (fun _ => rfl) l
theorem fr_tC (l : List TD) : okRows true (l.map tC) = true := okRows_map tC (fun _ => rfl) l
theorem fr_iCf {α : Type} (f : α → Int) (l : List α) : okRows true (l.map (iC ∘ f)) = true := okRows_map _ (fun _ => rfl) l
theorem fr_fC (l : List (List ID)) : okRows false (l.map fC) = true := okRows_map fC (fun _ => rfl) l

structure Fit (s : SD) : Prop where
  prog : s.prog.length ≤ 1000000
  code : ∀ f ∈ s.prog, f.length ≤ 1000000
  gs : s.gs.length ≤ 1000000
  ps : s.ps.length ≤ 1000000
  ms : s.ms.length ≤ 1000000
  gl : s.gl.length ≤ 1000000
  w0 : s.w0.length ≤ 1000000
  w1 : s.w1.length ≤ 1000000
  w2 : s.w2.length ≤ 1000000
  w3 : s.w3.length ≤ 1000000
  ts : s.ts.length ≤ 1000000

theorem drop_cases {α : Type} {l : List α} {i : Nat} (h : i ≤ l.length) : (i = l.length ∧ l.drop i = []) ∨ (i < l.length ∧ ∃ x, l.drop i = x :: l.drop (i + 1) ∧ l[i]? = some x) := by
  rcases Nat.lt_or_ge i l.length with hi | hi
  · exact .inr ⟨hi, l[i], List.drop_eq_getElem_cons hi, by simp [hi]⟩
  · have : i = l.length := by omega
    exact .inl ⟨this, by simp [this]⟩
theorem getD_map {α : Type} {f : α → List V} {l : List α} {i : Nat} {x : α} (h : l[i]? = some x) : (l.map f).getD i [] = f x := by
  simp [List.getD_eq_getElem?_getD, h]
theorem getD_rows {α : Type} {f : α → List V} {l : List α} {ra : List (List V)} (ha : ra = l.map f) {i : Nat} {x : α} (h : l[i]? = some x) : ra.getD i [] = f x := by
  rw [ha]; exact getD_map h
theorem take_succ_of {α : Type} {l : List α} {i : Nat} {x : α} (h : l[i]? = some x) : l.take (i + 1) = l.take i ++ [x] := by
  obtain ⟨hi, rfl⟩ := List.getElem?_eq_some_iff.1 h
  exact List.take_succ_eq_append_getElem hi
theorem mem_of_get {α : Type} {l : List α} {i : Nat} {x : α} (h : l[i]? = some x) : x ∈ l := List.mem_of_getElem? h

end Go.Ab

namespace Go.Ab
open Go Go.Proofs
set_option maxRecDepth 100000

theorem c34 (n : Int) (b : Bool) (hb : b = decide (0 ≤ n ∧ n < 2305843009213693952)) : CallsV Try.prog 34 [.int .i64 n] (.bool b) [.undef] true := by
  refine callsV_q hD Try.func34 ok34 rfl rfl rfl fun P Q hP hQ => ?_
  repeat' (cbv; first | refine .y ?_ | refine .n ?_ | refine .split (fun hc => ?_) fun hc => ?_ | refine EqQ.ints rfl (fun hc => ?_) fun hc => ?_ | refine .wa fun v hv => ?_ | refine .ra fun v hv => ?_ | refine .qa fun v hv => ?_ | refine .len fun v hv => ?_ | refine .all True.intro fun v hv => ?_ | refine Lt.to (by decide) rfl ?_ | (refine .au fun vr vn hvr hvn hvl => ?_; try simp only [List.length_cons, List.length_nil] at hvl) | fail)
  all_goals (try cbv)
  · have hbe : b = true := by rw [hb]; exact decide_eq_true (by omega)
    subst hbe; refine hQ _ ?_; exact ⟨rfl, rfl, rfl, rfl, rfl⟩
  · have hbe : b = false := by rw [hb]; exact decide_eq_false (by omega)
    subst hbe; refine hQ _ ?_; exact ⟨rfl, rfl, rfl, rfl, rfl⟩
  · have hbe : b = false := by rw [hb]; exact decide_eq_false (by omega)
    subst hbe; refine hQ _ ?_; exact ⟨rfl, rfl, rfl, rfl, rfl⟩

theorem c60 (n : Int) (b : Bool) (hb : b = decide (0 ≤ n ∧ n < 4611686018427387904)) : CallsV Try.prog 60 [.int .i64 n] (.bool b) [.undef] true := by
  refine callsV_q hD Try.func60 ok60 rfl rfl rfl fun P Q hP hQ => ?_
  repeat' (cbv; first | refine .y ?_ | refine .n ?_ | refine .split (fun hc => ?_) fun hc => ?_ | refine EqQ.ints rfl (fun hc => ?_) fun hc => ?_ | refine .wa fun v hv => ?_ | refine .ra fun v hv => ?_ | refine .qa fun v hv => ?_ | refine .len fun v hv => ?_ | refine .all True.intro fun v hv => ?_ | refine Lt.to (by decide) rfl ?_ | (refine .au fun vr vn hvr hvn hvl => ?_; try simp only [List.length_cons, List.length_nil] at hvl) | fail)
  all_goals (try cbv)
  · have hbe : b = true := by rw [hb]; exact decide_eq_true (by omega)
    subst hbe; refine hQ _ ?_; exact ⟨rfl, rfl, rfl, rfl, rfl⟩
  · have hbe : b = false := by rw [hb]; exact decide_eq_false (by omega)
    subst hbe; refine hQ _ ?_; exact ⟨rfl, rfl, rfl, rfl, rfl⟩
  · have hbe : b = false := by rw [hb]; exact decide_eq_false (by omega)
    subst hbe; refine hQ _ ?_; exact ⟨rfl, rfl, rfl, rfl, rfl⟩

def aheadP (x y : TD) : Prop := x.t < y.t ∨ (x.t = y.t ∧ x.g < y.g)
instance (x y : TD) : Decidable (aheadP x y) := by unfold aheadP; infer_instance
theorem c61 (x y : TD) (b : Bool) (hb : b = decide (aheadP x y)) : CallsV Try.prog 61 [.agg (tC x), .agg (tC y)] (.bool b) [.undef, .undef] true := by
  obtain ⟨xt, xg⟩ := x
  obtain ⟨yt, yg⟩ := y
  refine callsV_q hD Try.func61 ok61 rfl rfl rfl fun P Q hP hQ => ?_
  simp only [aheadP] at hb
  repeat' (cbv; first | refine .y ?_ | refine .n ?_ | refine .split (fun hc => ?_) fun hc => ?_ | refine EqQ.ints rfl (fun hc => ?_) fun hc => ?_ | refine .wa fun v hv => ?_ | refine .ra fun v hv => ?_ | refine .qa fun v hv => ?_ | refine .len fun v hv => ?_ | refine .all True.intro fun v hv => ?_ | refine Lt.to (by decide) rfl ?_ | (refine .au fun vr vn hvr hvn hvl => ?_; try simp only [List.length_cons, List.length_nil] at hvl) | fail)
  all_goals (try cbv)
  all_goals first
    | (have hbe : b = true := by rw [hb]; exact decide_eq_true (by omega)
       subst hbe; (refine hQ _ ?_; exact ⟨rfl, rfl, rfl, rfl, rfl⟩))
    | (have hbe : b = false := by rw [hb]; exact decide_eq_false (by omega)
       subst hbe; (refine hQ _ ?_; exact ⟨rfl, rfl, rfl, rfl, rfl⟩))

def mostI (n d : Int) : Int := if d = 1 then n - 1 else if d = 3 ∨ d = 4 then 3 else if d = 6 then 1000 else 0
theorem c52 (p : List (List ID)) (hp : p.length ≤ 1000000) (d z : Int) (hz : z = mostI p.length d) : CallsV Try.prog 52 [.sl false 1 (p.map fC), .int .i64 d] (.int .i64 z) [.undef, .undef] true := by
  obtain ⟨ra, ha⟩ : ∃ r, r = p.map fC := ⟨_, rfl⟩
  have sa := shR_fC p
  have la : ra.length = p.length := by simp [ha]
  obtain ⟨n, hn⟩ : ∃ n : Int, 0 ≤ n ∧ n.toNat = p.length := ⟨p.length, by omega, by omega⟩
  rw [show (p.length : Int) = n by omega] at hz
  rw [← ha] at sa ⊢
  refine callsV_q hD Try.func52 ok52 rfl rfl (by simp only [List.map_cons, List.map_nil, V.sh, sa]) fun P Q hP hQ => ?_
  repeat' (cbv; first | refine .y ?_ | refine .n ?_ | refine .split (fun hc => ?_) fun hc => ?_ | refine EqQ.ints rfl (fun hc => ?_) fun hc => ?_ | refine .wa fun v hv => ?_ | refine .ra fun v hv => ?_ | refine .qa fun v hv => ?_ | refine .len fun v hv => ?_ | refine .all True.intro fun v hv => ?_ | refine Lt.to (by decide) rfl ?_ | (refine .au fun vr vn hvr hvn hvl => ?_; try simp only [List.length_cons, List.length_nil] at hvl) | fail)
  all_goals (try cbv)
  all_goals
    unfold mostI at hz
    repeat' split at hz
    all_goals first
      | (exfalso; omega)
      | (subst hz; (refine hQ _ ?_; exact ⟨rfl, rfl, rfl, rfl, rfl⟩))
      | (have hbe : z = v := (by omega)
         subst hbe; (refine hQ _ ?_; exact ⟨rfl, rfl, rfl, rfl, rfl⟩))

def okI (n : Int) (x : ID) : Bool := decide (0 ≤ x.d ∧ x.d ≤ 6 ∧ 0 ≤ x.a ∧ x.a ≤ mostI n x.d)
def mayP (p : List (List ID)) : Bool := decide (1 ≤ p.length ∧ p.length ≤ 8) && p.all fun f => decide (f.length ≤ 20) && f.all (okI p.length)

set_option maxHeartbeats 1000000 in
theorem c24 (p : List (List ID)) (hp : p.length ≤ 1000000) (hf : ∀ f ∈ p, f.length ≤ 1000000) (b : Bool) (hb : b = mayP p) : CallsV Try.prog 24 [.sl false 1 (p.map fC)] (.bool b) [.undef] true := by
  obtain ⟨ra, ha⟩ : ∃ r, r = p.map fC := ⟨_, rfl⟩
  have sa := shR_fC p
  have la : ra.length = p.length := by simp [ha]
  have cm := fun d => c52 p hp d
  rw [← ha] at sa cm ⊢
  refine callsV_q hD Try.func24 ok24 rfl rfl (by simp only [List.map_cons, List.map_nil, V.sh, sa]) fun P Q hP hQ => ?_
  unfold mayP at hb
  repeat' (cbv; first | refine .y ?_ | refine .n ?_ | refine .split (fun hc => ?_) fun hc => ?_ | refine EqQ.ints rfl (fun hc => ?_) fun hc => ?_ | refine .wa fun v hv => ?_ | refine .ra fun v hv => ?_ | refine .qa fun v hv => ?_ | refine .len fun v hv => ?_ | refine .all True.intro fun v hv => ?_ | refine Lt.to (by decide) rfl ?_ | (refine .au fun vr vn hvr hvn hvl => ?_; try simp only [List.length_cons, List.length_nil] at hvl) | fail)
  all_goals (try cbv)
  · have hbe : b = false := by rw [hb, decide_eq_false (by omega)]; rfl
    subst hbe; refine hQ _ ?_; exact ⟨rfl, rfl, rfl, rfl, rfl⟩
  · have hbe : b = false := by rw [hb, decide_eq_false (by omega)]; rfl
    subst hbe; refine hQ _ ?_; exact ⟨rfl, rfl, rfl, rfl, rfl⟩
  · rw [decide_eq_true (by omega), Bool.true_and] at hb
    refine LoopQ.to (ι := Int) (fun i => ⟨tab .undef [(0, .sl false 1 ra), (3, .int .i64 i)], tab .dead []⟩)
      (fun i => 0 ≤ i ∧ i.toNat ≤ p.length ∧ b = (p.drop i.toNat).all fun f => decide (f.length ≤ 20) && f.all (okI p.length)) (fun i => p.length - i.toNat) 0 ⟨by omega, by omega, hb⟩ rfl fun i ⟨i0, i1, hi⟩ A hA => ?_
    rcases drop_cases i1 with ⟨e, hd⟩ | ⟨hlt, f, hd, hx⟩
    · rw [hd] at hi
      repeat' (cbv; first | refine .y ?_ | refine .n ?_ | refine .split (fun hc => ?_) fun hc => ?_ | refine EqQ.ints rfl (fun hc => ?_) fun hc => ?_ | refine .wa fun v hv => ?_ | refine .ra fun v hv => ?_ | refine .qa fun v hv => ?_ | refine .len fun v hv => ?_ | refine .all True.intro fun v hv => ?_ | refine Lt.to (by decide) rfl ?_ | (refine .au fun vr vn hvr hvn hvl => ?_; try simp only [List.length_cons, List.length_nil] at hvl) | fail)
      all_goals (try cbv)
      have hbe : b = true := by rw [hi]; rfl
      subst hbe; refine hQ _ ?_; exact ⟨rfl, rfl, rfl, rfl, rfl⟩
    · rw [hd, List.all_cons] at hi
      have ga := getD_rows ha hx
      have lf := hf f (mem_of_get hx)
      obtain ⟨rf, hrf⟩ : ∃ r, r = f.map jC := ⟨_, rfl⟩
      have lrf : rf.length = f.length := by simp [hrf]
      have ga' : ra.getD i.toNat [] = [.sl false 2 rf] := by rw [ga, hrf]; rfl
      repeat' (cbv; first | refine .y ?_ | refine .n ?_ | refine .split (fun hc => ?_) fun hc => ?_ | refine EqQ.ints rfl (fun hc => ?_) fun hc => ?_ | refine .row ga' ?_ | refine .wa fun v hv => ?_ | refine .ra fun v hv => ?_ | refine .qa fun v hv => ?_ | refine .len fun v hv => ?_ | refine .all True.intro fun v hv => ?_ | refine Lt.to (by decide) rfl ?_ | (refine .au fun vr vn hvr hvn hvl => ?_; try simp only [List.length_cons, List.length_nil] at hvl) | fail)
      all_goals (try cbv)
      · have hbe : b = false := by rw [hi, decide_eq_false (by omega)]; rfl
        subst hbe; refine hQ _ ?_; exact ⟨rfl, rfl, rfl, rfl, rfl⟩
      · rw [decide_eq_true (by omega), Bool.true_and] at hi
        refine LoopQ.to (ι := Int) (fun k => ⟨tab .undef [(0, .sl false 1 ra), (3, .int .i64 i), (4, .int .i64 k)], tab .dead []⟩)
          (fun k => 0 ≤ k ∧ k.toNat ≤ f.length ∧ b = ((f.drop k.toNat).all (okI p.length) && (p.drop (i.toNat + 1)).all fun f => decide (f.length ≤ 20) && f.all (okI p.length))) (fun k => f.length - k.toNat) 0 ⟨by omega, by omega, hi⟩ rfl fun k ⟨k0, k1, hk⟩ B hB => ?_
        rcases drop_cases k1 with ⟨e, hd'⟩ | ⟨hlt', x, hd', hx'⟩
        · rw [hd', List.all_nil, Bool.true_and] at hk
          repeat' (cbv; first | refine .y ?_ | refine .n ?_ | refine .split (fun hc => ?_) fun hc => ?_ | refine EqQ.ints rfl (fun hc => ?_) fun hc => ?_ | refine .row ga' ?_ | refine .wa fun v hv => ?_ | refine .ra fun v hv => ?_ | refine .qa fun v hv => ?_ | refine .len fun v hv => ?_ | refine .all True.intro fun v hv => ?_ | refine Lt.to (by decide) rfl ?_ | (refine .au fun vr vn hvr hvn hvl => ?_; try simp only [List.length_cons, List.length_nil] at hvl) | fail)
          all_goals (try cbv)
          exact hA _ _ ⟨by omega, by omega, by rw [hk]; congr 2; omega⟩ (by omega) rfl
        · rw [hd', List.all_cons] at hk
          have gf := getD_rows hrf hx'
          obtain ⟨xd, xa⟩ := x
          obtain ⟨z, hz⟩ : ∃ z, z = mostI p.length xd := ⟨_, rfl⟩
          have cz := cm xd z hz
          have hok : okI p.length ⟨xd, xa⟩ = decide (0 ≤ xd ∧ xd ≤ 6 ∧ 0 ≤ xa ∧ xa ≤ z) := by rw [hz]; rfl
          rw [hok] at hk
          try rw [← hP] at cz
          repeat' (cbv; first | refine .y ?_ | refine .n ?_ | refine .split (fun hc => ?_) fun hc => ?_ | refine EqQ.ints rfl (fun hc => ?_) fun hc => ?_ | refine .row ga' ?_ | refine .row gf ?_ | (refine id (α := CallQ P _ _ _ _ _ _) ?_; first | refine CallQ.to cz rfl (.inl rfl) ?_ ⟨sa, True.intro⟩) | refine .wa fun v hv => ?_ | refine .ra fun v hv => ?_ | refine .qa fun v hv => ?_ | refine .len fun v hv => ?_ | refine .all True.intro fun v hv => ?_ | refine Lt.to (by decide) rfl ?_ | (refine .au fun vr vn hvr hvn hvl => ?_; try simp only [List.length_cons, List.length_nil] at hvl) | fail)
          all_goals (try cbv)
          all_goals first
            | (have hbe : b = false := by rw [hk, decide_eq_false (by omega)]; rfl
               subst hbe; (refine hQ _ ?_; exact ⟨rfl, rfl, rfl, rfl, rfl⟩))
            | (rw [decide_eq_true (by omega), Bool.true_and] at hk
               exact hB _ _ ⟨by omega, by omega, by rw [hk]; congr 3; omega⟩ (by omega) rfl)
end Go.Ab

namespace Go.Ab
open Go Go.Proofs
set_option maxRecDepth 100000

theorem Lt.wr' {z v : Int} {K : Int → Prop} (h : -9223372036854775808 ≤ z) (h' : z < 9223372036854775808) (hv : v = z) (k : K v) : Lt (fun _ => True) (fun _ => IntKind.i64.wrap z) K := by
  subst hv
  exact .wr h h' fun w hw => hw ▸ k

theorem same_cons {α : Type} [DecidableEq α] {x y : α} {l m : List α} : decide (x :: l = y :: m) = (decide (x = y) && decide (l = m)) := by
  by_cases h : x = y <;> by_cases h' : l = m <;> simp [h, h']

theorem c28 (a b : List GD) (la : a.length ≤ 1000000) (t : Bool) (ht : t = decide (a = b)) : CallsV Try.prog 28 [.sl false 5 (a.map gC), .sl false 5 (b.map gC)] (.bool t) [.undef, .undef] true := by
  obtain ⟨ra, h_ra⟩ : ∃ r, r = a.map gC := ⟨_, rfl⟩
  have s_ra : V.shR ra = ra := by rw [h_ra]; exact shR_gC a
  have l_ra : ra.length = a.length := by simp [h_ra]
  obtain ⟨rb, h_rb⟩ : ∃ r, r = b.map gC := ⟨_, rfl⟩
  have s_rb : V.shR rb = rb := by rw [h_rb]; exact shR_gC b
  have l_rb : rb.length = b.length := by simp [h_rb]
  rw [← h_ra, ← h_rb]
  refine callsV_q hD Try.func28 ok28 rfl rfl (by simp only [List.map_cons, List.map_nil, V.sh, V.shL, stL, s_ra, s_rb]) fun P Q hP hQ => ?_
  repeat' (cbv; first | refine .y ?_ | refine .n ?_ | refine .split (fun hc => ?_) fun hc => ?_ | refine EqQ.ints rfl (fun hc => ?_) fun hc => ?_ | refine .wa fun v hv => ?_ | refine .ra fun v hv => ?_ | refine .qa fun v hv => ?_ | refine .len fun v hv => ?_ | refine .all True.intro fun v hv => ?_ | refine Lt.to (by decide) rfl ?_ | (refine .au fun vr vn hvr hvn hvl => ?_; try simp only [List.length_cons, List.length_nil] at hvl) | fail)
  all_goals (try cbv)
  · have hl : a.length = b.length := by omega
    refine LoopQ.to (ι := Int) (fun i => ⟨tab .undef [(0, .sl false 5 ra), (1, .sl false 5 rb), (5, .int .i64 i)], tab .dead []⟩)
      (fun i => 0 ≤ i ∧ i.toNat ≤ a.length ∧ t = decide (a.drop i.toNat = b.drop i.toNat)) (fun i => a.length - i.toNat) 0 ⟨by omega, by omega, ht⟩ rfl fun i ⟨i0, i1, hi⟩ A hA => ?_
    rcases drop_cases i1 with ⟨e, hd⟩ | ⟨hlt, x, hd, hx⟩
    · rw [hd, List.drop_eq_nil_of_le (by omega)] at hi
      repeat' (cbv; first | refine .y ?_ | refine .n ?_ | refine .split (fun hc => ?_) fun hc => ?_ | refine EqQ.ints rfl (fun hc => ?_) fun hc => ?_ | refine .wa fun v hv => ?_ | refine .ra fun v hv => ?_ | refine .qa fun v hv => ?_ | refine .len fun v hv => ?_ | refine .all True.intro fun v hv => ?_ | refine Lt.to (by decide) rfl ?_ | (refine .au fun vr vn hvr hvn hvl => ?_; try simp only [List.length_cons, List.length_nil] at hvl) | fail)
      all_goals (try cbv)
      have hbe : t = true := by rw [hi]; rfl
      subst hbe; (refine hQ _ ?_; exact ⟨rfl, rfl, rfl, rfl, rfl⟩)
    · obtain ⟨_, y, hd', hy⟩ := (drop_cases (l := b) (i := i.toNat) (by omega)).resolve_left (by omega)
      rw [hd, hd', same_cons] at hi
      have ga := getD_rows h_ra hx
      have gb := getD_rows h_rb hy
      obtain ⟨x0, x1, x2, x3, x4⟩ := x
      obtain ⟨y0, y1, y2, y3, y4⟩ := y
      repeat' (cbv; first | refine .y ?_ | refine .n ?_ | refine .split (fun hc => ?_) fun hc => ?_ | refine EqQ.ints rfl (fun hc => ?_) fun hc => ?_ | refine .row ga ?_ | refine .row gb ?_ | refine .wa fun v hv => ?_ | refine .ra fun v hv => ?_ | refine .qa fun v hv => ?_ | refine .len fun v hv => ?_ | refine .all True.intro fun v hv => ?_ | refine Lt.to (by decide) rfl ?_ | (refine .au fun vr vn hvr hvn hvl => ?_; try simp only [List.length_cons, List.length_nil] at hvl) | fail)
      all_goals (try cbv)
      · simp only [eqsP, and_true] at hc
        rw [decide_eq_true (by simp only [GD.mk.injEq]; omega), Bool.true_and] at hi
        exact hA _ _ ⟨by omega, by omega, by rw [hi, show v.toNat = i.toNat + 1 by omega]⟩ (by omega) rfl
      · simp only [eqsP, and_true] at hc
        have hbe : t = false := by rw [hi, decide_eq_false (by simp only [GD.mk.injEq]; omega)]; rfl
        subst hbe; (refine hQ _ ?_; exact ⟨rfl, rfl, rfl, rfl, rfl⟩)
  · have hbe : t = false := by rw [ht]; exact decide_eq_false fun e => by subst e; omega
    subst hbe; (refine hQ _ ?_; exact ⟨rfl, rfl, rfl, rfl, rfl⟩)

theorem c30 (a b : List TD) (la : a.length ≤ 1000000) (t : Bool) (ht : t = decide (a = b)) : CallsV Try.prog 30 [.sl false 2 (a.map tC), .sl false 2 (b.map tC)] (.bool t) [.undef, .undef] true := by
  obtain ⟨ra, h_ra⟩ : ∃ r, r = a.map tC := ⟨_, rfl⟩
  have s_ra : V.shR ra = ra := by rw [h_ra]; exact shR_tC a
  have l_ra : ra.length = a.length := by simp [h_ra]
  obtain ⟨rb, h_rb⟩ : ∃ r, r = b.map tC := ⟨_, rfl⟩
  have s_rb : V.shR rb = rb := by rw [h_rb]; exact shR_tC b
  have l_rb : rb.length = b.length := by simp [h_rb]
  rw [← h_ra, ← h_rb]
  refine callsV_q hD Try.func30 ok30 rfl rfl (by simp only [List.map_cons, List.map_nil, V.sh, V.shL, stL, s_ra, s_rb]) fun P Q hP hQ => ?_
  repeat' (cbv; first | refine .y ?_ | refine .n ?_ | refine .split (fun hc => ?_) fun hc => ?_ | refine EqQ.ints rfl (fun hc => ?_) fun hc => ?_ | refine .wa fun v hv => ?_ | refine .ra fun v hv => ?_ | refine .qa fun v hv => ?_ | refine .len fun v hv => ?_ | refine .all True.intro fun v hv => ?_ | refine Lt.to (by decide) rfl ?_ | (refine .au fun vr vn hvr hvn hvl => ?_; try simp only [List.length_cons, List.length_nil] at hvl) | fail)
  all_goals (try cbv)
  · have hl : a.length = b.length := by omega
    refine LoopQ.to (ι := Int) (fun i => ⟨tab .undef [(0, .sl false 2 ra), (1, .sl false 2 rb), (5, .int .i64 i)], tab .dead []⟩)
      (fun i => 0 ≤ i ∧ i.toNat ≤ a.length ∧ t = decide (a.drop i.toNat = b.drop i.toNat)) (fun i => a.length - i.toNat) 0 ⟨by omega, by omega, ht⟩ rfl fun i ⟨i0, i1, hi⟩ A hA => ?_
    rcases drop_cases i1 with ⟨e, hd⟩ | ⟨hlt, x, hd, hx⟩
    · rw [hd, List.drop_eq_nil_of_le (by omega)] at hi
      repeat' (cbv; first | refine .y ?_ | refine .n ?_ | refine .split (fun hc => ?_) fun hc => ?_ | refine EqQ.ints rfl (fun hc => ?_) fun hc => ?_ | refine .wa fun v hv => ?_ | refine .ra fun v hv => ?_ | refine .qa fun v hv => ?_ | refine .len fun v hv => ?_ | refine .all True.intro fun v hv => ?_ | refine Lt.to (by decide) rfl ?_ | (refine .au fun vr vn hvr hvn hvl => ?_; try simp only [List.length_cons, List.length_nil] at hvl) | fail)
      all_goals (try cbv)
      have hbe : t = true := by rw [hi]; rfl
      subst hbe; (refine hQ _ ?_; exact ⟨rfl, rfl, rfl, rfl, rfl⟩)
    · obtain ⟨_, y, hd', hy⟩ := (drop_cases (l := b) (i := i.toNat) (by omega)).resolve_left (by omega)
      rw [hd, hd', same_cons] at hi
      have ga := getD_rows h_ra hx
      have gb := getD_rows h_rb hy
      obtain ⟨x0, x1⟩ := x
      obtain ⟨y0, y1⟩ := y
      repeat' (cbv; first | refine .y ?_ | refine .n ?_ | refine .split (fun hc => ?_) fun hc => ?_ | refine EqQ.ints rfl (fun hc => ?_) fun hc => ?_ | refine .row ga ?_ | refine .row gb ?_ | refine .wa fun v hv => ?_ | refine .ra fun v hv => ?_ | refine .qa fun v hv => ?_ | refine .len fun v hv => ?_ | refine .all True.intro fun v hv => ?_ | refine Lt.to (by decide) rfl ?_ | (refine .au fun vr vn hvr hvn hvl => ?_; try simp only [List.length_cons, List.length_nil] at hvl) | fail)
      all_goals (try cbv)
      · simp only [eqsP, and_true] at hc
        rw [decide_eq_true (by simp only [TD.mk.injEq]; omega), Bool.true_and] at hi
        exact hA _ _ ⟨by omega, by omega, by rw [hi, show v.toNat = i.toNat + 1 by omega]⟩ (by omega) rfl
      · simp only [eqsP, and_true] at hc
        have hbe : t = false := by rw [hi, decide_eq_false (by simp only [TD.mk.injEq]; omega)]; rfl
        subst hbe; (refine hQ _ ?_; exact ⟨rfl, rfl, rfl, rfl, rfl⟩)
  · have hbe : t = false := by rw [ht]; exact decide_eq_false fun e => by subst e; omega
    subst hbe; (refine hQ _ ?_; exact ⟨rfl, rfl, rfl, rfl, rfl⟩)

set_option maxHeartbeats 1000000 in
theorem c27 (a b : List (List ID)) (la : a.length ≤ 1000000) (lf : ∀ f ∈ a, f.length ≤ 1000000) (t : Bool) (ht : t = decide (a = b)) : CallsV Try.prog 27 [.sl false 1 (a.map fC), .sl false 1 (b.map fC)] (.bool t) [.undef, .undef] true := by
  obtain ⟨ra, h_ra⟩ : ∃ r, r = a.map fC := ⟨_, rfl⟩
  have s_ra : V.shR ra = ra := by rw [h_ra]; exact shR_fC a
  have l_ra : ra.length = a.length := by simp [h_ra]
  obtain ⟨rb, h_rb⟩ : ∃ r, r = b.map fC := ⟨_, rfl⟩
  have s_rb : V.shR rb = rb := by rw [h_rb]; exact shR_fC b
  have l_rb : rb.length = b.length := by simp [h_rb]
  rw [← h_ra, ← h_rb]
  refine callsV_q hD Try.func27 ok27 rfl rfl (by simp only [List.map_cons, List.map_nil, V.sh, V.shL, stL, s_ra, s_rb]) fun P Q hP hQ => ?_
  repeat' (cbv; first | refine .y ?_ | refine .n ?_ | refine .split (fun hc => ?_) fun hc => ?_ | refine EqQ.ints rfl (fun hc => ?_) fun hc => ?_ | refine .wa fun v hv => ?_ | refine .ra fun v hv => ?_ | refine .qa fun v hv => ?_ | refine .len fun v hv => ?_ | refine .all True.intro fun v hv => ?_ | refine Lt.to (by decide) rfl ?_ | (refine .au fun vr vn hvr hvn hvl => ?_; try simp only [List.length_cons, List.length_nil] at hvl) | fail)
  all_goals (try cbv)
  · have hl : a.length = b.length := by omega
    refine LoopQ.to (ι := Int) (fun i => ⟨tab .undef [(0, .sl false 1 ra), (1, .sl false 1 rb), (5, .int .i64 i)], tab .dead []⟩)
      (fun i => 0 ≤ i ∧ i.toNat ≤ a.length ∧ t = decide (a.drop i.toNat = b.drop i.toNat)) (fun i => a.length - i.toNat) 0 ⟨by omega, by omega, ht⟩ rfl fun i ⟨i0, i1, hi⟩ A hA => ?_
    rcases drop_cases i1 with ⟨e, hd⟩ | ⟨hlt, f, hd, hx⟩
    · rw [hd, List.drop_eq_nil_of_le (by omega)] at hi
      repeat' (cbv; first | refine .y ?_ | refine .n ?_ | refine .split (fun hc => ?_) fun hc => ?_ | refine EqQ.ints rfl (fun hc => ?_) fun hc => ?_ | refine .wa fun v hv => ?_ | refine .ra fun v hv => ?_ | refine .qa fun v hv => ?_ | refine .len fun v hv => ?_ | refine .all True.intro fun v hv => ?_ | refine Lt.to (by decide) rfl ?_ | (refine .au fun vr vn hvr hvn hvl => ?_; try simp only [List.length_cons, List.length_nil] at hvl) | fail)
      all_goals (try cbv)
      have hbe : t = true := by rw [hi]; rfl
      subst hbe; (refine hQ _ ?_; exact ⟨rfl, rfl, rfl, rfl, rfl⟩)
    · obtain ⟨_, g, hd', hy⟩ := (drop_cases (l := b) (i := i.toNat) (by omega)).resolve_left (by omega)
      rw [hd, hd', same_cons] at hi
      have lf' := lf f (mem_of_get hx)
      obtain ⟨rf, h_rf⟩ : ∃ r, r = f.map jC := ⟨_, rfl⟩
      have s_rf : V.shR rf = rf := by rw [h_rf]; exact shR_jC f
      have l_rf : rf.length = f.length := by simp [h_rf]
      obtain ⟨rg, h_rg⟩ : ∃ r, r = g.map jC := ⟨_, rfl⟩
      have s_rg : V.shR rg = rg := by rw [h_rg]; exact shR_jC g
      have l_rg : rg.length = g.length := by simp [h_rg]
      have ga : ra.getD i.toNat [] = [.sl false 2 rf] := by rw [getD_rows h_ra hx, h_rf]; rfl
      have gb : rb.getD i.toNat [] = [.sl false 2 rg] := by rw [getD_rows h_rb hy, h_rg]; rfl
      repeat' (cbv; first | refine .y ?_ | refine .n ?_ | refine .split (fun hc => ?_) fun hc => ?_ | refine EqQ.ints rfl (fun hc => ?_) fun hc => ?_ | refine .row ga ?_ | refine .row gb ?_ | refine .wa fun v hv => ?_ | refine .ra fun v hv => ?_ | refine .qa fun v hv => ?_ | refine .len fun v hv => ?_ | refine .all True.intro fun v hv => ?_ | refine Lt.to (by decide) rfl ?_ | (refine .au fun vr vn hvr hvn hvl => ?_; try simp only [List.length_cons, List.length_nil] at hvl) | fail)
      all_goals (try cbv)
      · have hl' : f.length = g.length := by omega
        obtain ⟨T, hT⟩ : ∃ T, T = decide (a.drop (i.toNat + 1) = b.drop (i.toNat + 1)) := ⟨_, rfl⟩
        rw [← hT] at hi
        refine LoopQ.to (ι := Int) (fun k => ⟨tab .undef [(0, .sl false 1 ra), (1, .sl false 1 rb), (5, .int .i64 i), (6, .int .i64 k)], tab .dead []⟩)
          (fun k => 0 ≤ k ∧ k.toNat ≤ f.length ∧ t = (decide (f.drop k.toNat = g.drop k.toNat) && T)) (fun k => f.length - k.toNat) 0 ⟨by omega, by omega, hi⟩ rfl fun k ⟨k0, k1, hk⟩ B hB => ?_
        rcases drop_cases k1 with ⟨e, hd⟩ | ⟨hlt, x, hd, hx⟩
        · rw [hd, List.drop_eq_nil_of_le (by omega), decide_eq_true rfl, Bool.true_and] at hk
          repeat' (cbv; first | refine .y ?_ | refine .n ?_ | refine .split (fun hc => ?_) fun hc => ?_ | refine EqQ.ints rfl (fun hc => ?_) fun hc => ?_ | refine .row ga ?_ | refine .wa fun v hv => ?_ | refine .ra fun v hv => ?_ | refine .qa fun v hv => ?_ | refine .len fun v hv => ?_ | refine .all True.intro fun v hv => ?_ | refine Lt.to (by decide) rfl ?_ | (refine .au fun vr vn hvr hvn hvl => ?_; try simp only [List.length_cons, List.length_nil] at hvl) | fail)
          all_goals (try cbv)
          exact hA _ _ ⟨by omega, by omega, by rw [hk, hT, show v.toNat = i.toNat + 1 by omega]⟩ (by omega) rfl
        · obtain ⟨_, y, hd', hy⟩ := (drop_cases (l := g) (i := k.toNat) (by omega)).resolve_left (by omega)
          rw [hd, hd', same_cons] at hk
          have gx := getD_rows h_rf hx
          have gy := getD_rows h_rg hy
          obtain ⟨x0, x1⟩ := x
          obtain ⟨y0, y1⟩ := y
          repeat' (cbv; first | refine .y ?_ | refine .n ?_ | refine .split (fun hc => ?_) fun hc => ?_ | refine EqQ.ints rfl (fun hc => ?_) fun hc => ?_ | refine .row ga ?_ | refine .row gb ?_ | refine .row gx ?_ | refine .row gy ?_ | refine .wa fun v hv => ?_ | refine .ra fun v hv => ?_ | refine .qa fun v hv => ?_ | refine .len fun v hv => ?_ | refine .all True.intro fun v hv => ?_ | refine Lt.to (by decide) rfl ?_ | (refine .au fun vr vn hvr hvn hvl => ?_; try simp only [List.length_cons, List.length_nil] at hvl) | fail)
          all_goals (try cbv)
          · simp only [eqsP, and_true] at hc
            rw [decide_eq_true (by simp only [ID.mk.injEq]; omega), Bool.true_and] at hk
            exact hB _ _ ⟨by omega, by omega, by rw [hk, show v.toNat = k.toNat + 1 by omega]⟩ (by omega) rfl
          · simp only [eqsP, and_true] at hc
            have hbe : t = false := by rw [hk, decide_eq_false (by simp only [ID.mk.injEq]; omega)]; rfl
            subst hbe; (refine hQ _ ?_; exact ⟨rfl, rfl, rfl, rfl, rfl⟩)
      · have hbe : t = false := by rw [hi, decide_eq_false fun e => by subst e; omega]; rfl
        subst hbe; (refine hQ _ ?_; exact ⟨rfl, rfl, rfl, rfl, rfl⟩)
  · have hbe : t = false := by rw [ht]; exact decide_eq_false fun e => by subst e; omega
    subst hbe; (refine hQ _ ?_; exact ⟨rfl, rfl, rfl, rfl, rfl⟩)

def smallPr (p : List (List ID)) : Bool := p.all (fun f => decide (f.length ≤ 30)) && decide (p.length ≤ 12)
theorem c9 (p : List (List ID)) (hp : p.length ≤ 140737488355328) (b : Bool) (hb : b = smallPr p) : CallsV Try.prog 9 [.sl false 1 (p.map fC)] (.bool b) [.undef] true := by
  obtain ⟨ra, h_ra⟩ : ∃ r, r = p.map fC := ⟨_, rfl⟩
  have s_ra : V.shR ra = ra := by rw [h_ra]; exact shR_fC p
  have l_ra : ra.length = p.length := by simp [h_ra]
  rw [← h_ra]
  refine callsV_q hD Try.func9 ok9 rfl rfl (by simp only [List.map_cons, List.map_nil, V.sh, V.shL, stL, s_ra]) fun P Q hP hQ => ?_
  unfold smallPr at hb
  repeat' (cbv; first | refine .y ?_ | refine .n ?_ | refine .split (fun hc => ?_) fun hc => ?_ | refine EqQ.ints rfl (fun hc => ?_) fun hc => ?_ | refine .wa fun v hv => ?_ | refine .ra fun v hv => ?_ | refine .qa fun v hv => ?_ | refine .len fun v hv => ?_ | refine .all True.intro fun v hv => ?_ | refine Lt.to (by decide) rfl ?_ | (refine .au fun vr vn hvr hvn hvl => ?_; try simp only [List.length_cons, List.length_nil] at hvl) | fail)
  all_goals (try cbv)
  refine LoopQ.to (ι := Int) (fun i => ⟨tab .undef [(0, .sl false 1 ra), (3, .int .i64 i)], tab .dead []⟩)
    (fun i => 0 ≤ i ∧ i.toNat ≤ p.length ∧ b = ((p.drop i.toNat).all (fun f => decide (f.length ≤ 30)) && decide (p.length ≤ 12))) (fun i => p.length - i.toNat) 0 ⟨by omega, by omega, hb⟩ rfl fun i ⟨i0, i1, hi⟩ A hA => ?_
  rcases drop_cases i1 with ⟨e, hd⟩ | ⟨hlt, f, hd, hx⟩
  · rw [hd, List.all_nil, Bool.true_and] at hi
    repeat' (cbv; first | refine .y ?_ | refine .n ?_ | refine .split (fun hc => ?_) fun hc => ?_ | refine EqQ.ints rfl (fun hc => ?_) fun hc => ?_ | refine .wa fun v hv => ?_ | refine .ra fun v hv => ?_ | refine .qa fun v hv => ?_ | refine .len fun v hv => ?_ | refine .all True.intro fun v hv => ?_ | refine Lt.to (by decide) rfl ?_ | (refine .au fun vr vn hvr hvn hvl => ?_; try simp only [List.length_cons, List.length_nil] at hvl) | fail)
    all_goals (try cbv)
    · have hbe : b = true := by rw [hi]; exact decide_eq_true (by omega)
      subst hbe; refine hQ _ ?_; exact ⟨rfl, rfl, rfl, rfl, rfl⟩
    · have hbe : b = false := by rw [hi]; exact decide_eq_false (by omega)
      subst hbe; refine hQ _ ?_; exact ⟨rfl, rfl, rfl, rfl, rfl⟩
  · rw [hd, List.all_cons] at hi
    obtain ⟨rf, h_rf⟩ : ∃ r, r = f.map jC := ⟨_, rfl⟩
    have s_rf : V.shR rf = rf := by rw [h_rf]; exact shR_jC f
    have l_rf : rf.length = f.length := by simp [h_rf]
    have ga : ra.getD i.toNat [] = [.sl false 2 rf] := by rw [getD_rows h_ra hx, h_rf]; rfl
    repeat' (cbv; first | refine .y ?_ | refine .n ?_ | refine .split (fun hc => ?_) fun hc => ?_ | refine EqQ.ints rfl (fun hc => ?_) fun hc => ?_ | refine .row ga ?_ | refine .wa fun v hv => ?_ | refine .ra fun v hv => ?_ | refine .qa fun v hv => ?_ | refine .len fun v hv => ?_ | refine .all True.intro fun v hv => ?_ | refine Lt.to (by decide) rfl ?_ | (refine .au fun vr vn hvr hvn hvl => ?_; try simp only [List.length_cons, List.length_nil] at hvl) | fail)
    all_goals (try cbv)
    · have hbe : b = false := by rw [hi, decide_eq_false (by omega)]; rfl
      subst hbe; refine hQ _ ?_; exact ⟨rfl, rfl, rfl, rfl, rfl⟩
    · rw [decide_eq_true (by omega), Bool.true_and] at hi
      exact hA _ _ ⟨by omega, by omega, by rw [hi, show v.toNat = i.toNat + 1 by omega]⟩ (by omega) rfl

def okT (x : TD) : Bool := decide (0 ≤ x.t ∧ x.t < 4611686018427387904 ∧ 1 ≤ x.g)
def mayT : List TD → List TD → Bool
  | _, [] => true
  | pre, x :: l => okT x && (match pre.getLast? with | none => true | some y => decide (aheadP y x)) && pre.all (fun y => decide (y.g ≠ x.g)) && mayT (pre ++ [x]) l
set_option maxHeartbeats 1000000 in
theorem c35 (l : List TD) (hl : l.length ≤ 1000000) (b : Bool) (hb : b = mayT [] l) : CallsV Try.prog 35 [.sl false 2 (l.map tC)] (.bool b) [.undef] true := by
  obtain ⟨ra, h_ra⟩ : ∃ r, r = l.map tC := ⟨_, rfl⟩
  have s_ra : V.shR ra = ra := by rw [h_ra]; exact shR_tC l
  have l_ra : ra.length = l.length := by simp [h_ra]
  rw [← h_ra]
  refine callsV_q hD Try.func35 ok35 rfl rfl (by simp only [List.map_cons, List.map_nil, V.sh, V.shL, stL, s_ra]) fun P Q hP hQ => ?_
  repeat' (cbv; first | refine .y ?_ | refine .n ?_ | refine .split (fun hc => ?_) fun hc => ?_ | refine EqQ.ints rfl (fun hc => ?_) fun hc => ?_ | refine .wa fun v hv => ?_ | refine .ra fun v hv => ?_ | refine .qa fun v hv => ?_ | refine .len fun v hv => ?_ | refine .all True.intro fun v hv => ?_ | refine Lt.to (by decide) rfl ?_ | (refine .au fun vr vn hvr hvn hvl => ?_; try simp only [List.length_cons, List.length_nil] at hvl) | fail)
  all_goals (try cbv)
  refine LoopQ.to (ι := Int) (fun i => ⟨tab .undef [(0, .sl false 2 ra), (3, .int .i64 i)], tab .dead []⟩)
    (fun i => 0 ≤ i ∧ i.toNat ≤ l.length ∧ b = mayT (l.take i.toNat) (l.drop i.toNat)) (fun i => l.length - i.toNat) 0 ⟨by omega, by omega, hb⟩ rfl fun i ⟨i0, i1, hi⟩ A hA => ?_
  rcases drop_cases i1 with ⟨e, hd⟩ | ⟨hlt, x, hd, hx⟩
  · rw [hd] at hi
    repeat' (cbv; first | refine .y ?_ | refine .n ?_ | refine .split (fun hc => ?_) fun hc => ?_ | refine EqQ.ints rfl (fun hc => ?_) fun hc => ?_ | refine .wa fun v hv => ?_ | refine .ra fun v hv => ?_ | refine .qa fun v hv => ?_ | refine .len fun v hv => ?_ | refine .all True.intro fun v hv => ?_ | refine Lt.to (by decide) rfl ?_ | (refine .au fun vr vn hvr hvn hvl => ?_; try simp only [List.length_cons, List.length_nil] at hvl) | fail)
    all_goals (try cbv)
    have hbe : b = true := by rw [hi]; rfl
    subst hbe; refine hQ _ ?_; exact ⟨rfl, rfl, rfl, rfl, rfl⟩
  · rw [hd, mayT] at hi
    have ga := getD_rows h_ra hx
    obtain ⟨xt, xg⟩ := x
    obtain ⟨b1, hb1⟩ : ∃ b1, b1 = decide (0 ≤ xt ∧ xt < 4611686018427387904) := ⟨_, rfl⟩
    have c1 := c60 xt b1 hb1
    have hok : okT ⟨xt, xg⟩ = (b1 && decide (1 ≤ xg)) := by
      rw [hb1]; unfold okT
      by_cases h1 : 0 ≤ xt ∧ xt < 4611686018427387904 <;> by_cases h2 : 1 ≤ xg <;> simp [h1, h2]
      (try exact fun h3 h4 => h1 ⟨h3, h4⟩)
    rw [hok] at hi
    cases b1 with
    | false =>
      try rw [← hP] at c1
      repeat' (cbv; first | refine .y ?_ | refine .n ?_ | refine .split (fun hc => ?_) fun hc => ?_ | refine EqQ.ints rfl (fun hc => ?_) fun hc => ?_ | refine .row ga ?_ | refine .go c1 ?_ | refine .wa fun v hv => ?_ | refine .ra fun v hv => ?_ | refine .qa fun v hv => ?_ | refine .len fun v hv => ?_ | refine .all True.intro fun v hv => ?_ | refine Lt.to (by decide) rfl ?_ | (refine .au fun vr vn hvr hvn hvl => ?_; try simp only [List.length_cons, List.length_nil] at hvl) | fail)
      all_goals (try cbv)
      have hbe : b = false := by rw [hi]; rfl
      subst hbe; refine hQ _ ?_; exact ⟨rfl, rfl, rfl, rfl, rfl⟩
    | true =>
      rw [Bool.true_and] at hi
      by_cases hg : 1 ≤ xg
      · rw [decide_eq_true hg, Bool.true_and] at hi
        obtain ⟨T, hT⟩ : ∃ T, T = mayT (l.take i.toNat ++ [⟨xt, xg⟩]) (l.drop (i.toNat + 1)) := ⟨_, rfl⟩
        rw [← hT] at hi
        obtain ⟨pre, hpre⟩ : ∃ pre, pre = l.take i.toNat := ⟨_, rfl⟩
        rw [← hpre] at hi hT
        have lpre : pre.length = i.toNat := by rw [hpre]; simp; omega
        rcases (show i = 0 ∨ 0 < i by omega) with e0 | hpos
        · subst e0
          have : pre = [] := List.eq_nil_of_length_eq_zero lpre
          subst this
          simp only [List.getLast?_nil, List.all_nil, Bool.true_and] at hi
          have hat1 : 2 = 2 ∧ (0 : Int) ≤ 0 ∧ (0 : Int).toNat < ra.length := ⟨rfl, by omega, by omega⟩
          try rw [← hP] at c1
          repeat' (cbv; first | refine .y ?_ | refine .n ?_ | refine .split (fun hc => ?_) fun hc => ?_ | refine EqQ.ints rfl (fun hc => ?_) fun hc => ?_ | refine Lt.to hat1 ga ?_ | refine .go c1 ?_ | refine .wa fun v hv => ?_ | refine .ra fun v hv => ?_ | refine .qa fun v hv => ?_ | refine .len fun v hv => ?_ | refine .all True.intro fun v hv => ?_ | refine Lt.to (by decide) rfl ?_ | (refine .au fun vr vn hvr hvn hvl => ?_; try simp only [List.length_cons, List.length_nil] at hvl) | fail)
          all_goals (try cbv)
          refine LoopQ.to (ι := Unit) (fun _ => ⟨tab .undef [(0, .sl false 2 ra), (3, .int .i64 0), (4, .int .i64 0)], tab .dead []⟩) (fun _ => True) (fun _ => 0) () trivial rfl fun _ _ B hB => ?_
          repeat' (cbv; first | refine .y ?_ | refine .n ?_ | refine .split (fun hc => ?_) fun hc => ?_ | refine EqQ.ints rfl (fun hc => ?_) fun hc => ?_ | refine .wa fun v hv => ?_ | refine .ra fun v hv => ?_ | refine .qa fun v hv => ?_ | refine .len fun v hv => ?_ | refine .all True.intro fun v hv => ?_ | refine Lt.to (by decide) rfl ?_ | (refine .au fun vr vn hvr hvn hvl => ?_; try simp only [List.length_cons, List.length_nil] at hvl) | fail)
          all_goals (try cbv)
          exact hA _ _ ⟨by omega, by omega, by
            rw [hi, hT, hv, show (0 + 1 : Int).toNat = (0 : Int).toNat + 1 by omega, take_succ_of hx]; rfl⟩ (by omega) rfl
        · have hlt1 : i.toNat - 1 < l.length := by omega
          obtain ⟨y, hy⟩ : ∃ y, l[i.toNat - 1]? = some y := ⟨_, List.getElem?_eq_getElem hlt1⟩
          have hlast : pre.getLast? = some y := by
            rw [List.getLast?_eq_getElem?, hpre, List.getElem?_take, if_pos (by simp; omega)]
            rw [show (l.take i.toNat).length - 1 = i.toNat - 1 by simp; omega]; exact hy
          rw [hlast] at hi
          simp only at hi
          have gy := getD_rows h_ra hy
          obtain ⟨yt, yg⟩ := y
          obtain ⟨b2, hb2⟩ : ∃ b2, b2 = decide (aheadP ⟨yt, yg⟩ ⟨xt, xg⟩) := ⟨_, rfl⟩
          have c2 := c61 ⟨yt, yg⟩ ⟨xt, xg⟩ b2 hb2
          rw [← hb2] at hi
          obtain ⟨z, hz⟩ : ∃ z, z = i - 1 := ⟨_, rfl⟩
          rw [show i.toNat - 1 = z.toNat by omega] at gy
          cases b2 with
          | false =>
            try rw [← hP] at c1
            try rw [← hP] at c2
            repeat' (cbv; first | refine .y ?_ | refine .n ?_ | refine .split (fun hc => ?_) fun hc => ?_ | refine EqQ.ints rfl (fun hc => ?_) fun hc => ?_ | refine .row ga ?_ | refine .go c1 ?_ | refine .go c2 ?_ | refine .wn hz ?_ | refine .row gy ?_ | refine .wa fun v hv => ?_ | refine .ra fun v hv => ?_ | refine .qa fun v hv => ?_ | refine .len fun v hv => ?_ | refine .all True.intro fun v hv => ?_ | refine Lt.to (by decide) rfl ?_ | (refine .au fun vr vn hvr hvn hvl => ?_; try simp only [List.length_cons, List.length_nil] at hvl) | fail)
            all_goals (try cbv)
            have hbe : b = false := by rw [hi]; rfl
            subst hbe; refine hQ _ ?_; exact ⟨rfl, rfl, rfl, rfl, rfl⟩
          | true =>
            rw [Bool.true_and] at hi
            try rw [← hP] at c1
            try rw [← hP] at c2
            repeat' (cbv; first | refine .y ?_ | refine .n ?_ | refine .split (fun hc => ?_) fun hc => ?_ | refine EqQ.ints rfl (fun hc => ?_) fun hc => ?_ | refine .row ga ?_ | refine .go c1 ?_ | refine .go c2 ?_ | refine .wn hz ?_ | refine .row gy ?_ | refine .wa fun v hv => ?_ | refine .ra fun v hv => ?_ | refine .qa fun v hv => ?_ | refine .len fun v hv => ?_ | refine .all True.intro fun v hv => ?_ | refine Lt.to (by decide) rfl ?_ | (refine .au fun vr vn hvr hvn hvl => ?_; try simp only [List.length_cons, List.length_nil] at hvl) | fail)
            all_goals (try cbv)
            refine LoopQ.to (ι := Int) (fun k => ⟨tab .undef [(0, .sl false 2 ra), (3, .int .i64 i), (4, .int .i64 k)], tab .dead []⟩)
              (fun k => 0 ≤ k ∧ k.toNat ≤ pre.length ∧ b = ((pre.drop k.toNat).all (fun y => decide (y.g ≠ xg)) && T)) (fun k => pre.length - k.toNat) 0 ⟨by omega, by omega, hi⟩ rfl fun k ⟨k0, k1, hk⟩ B hB => ?_
            rcases drop_cases k1 with ⟨e, hd'⟩ | ⟨hlt', w, hd', hw⟩
            · rw [hd', List.all_nil, Bool.true_and] at hk
              repeat' (cbv; first | refine .y ?_ | refine .n ?_ | refine .split (fun hc => ?_) fun hc => ?_ | refine EqQ.ints rfl (fun hc => ?_) fun hc => ?_ | refine .wa fun v hv => ?_ | refine .ra fun v hv => ?_ | refine .qa fun v hv => ?_ | refine .len fun v hv => ?_ | refine .all True.intro fun v hv => ?_ | refine Lt.to (by decide) rfl ?_ | (refine .au fun vr vn hvr hvn hvl => ?_; try simp only [List.length_cons, List.length_nil] at hvl) | fail)
              all_goals (try cbv)
              exact hA _ _ ⟨by omega, by omega, by
                rw [hk, hT, show v.toNat = i.toNat + 1 by omega, take_succ_of hx, hpre]⟩ (by omega) rfl
            · rw [hd', List.all_cons] at hk
              have hw' : l[k.toNat]? = some w := by
                rw [hpre, List.getElem?_take] at hw
                split at hw
                · exact hw
                · cases hw
              have gw := getD_rows h_ra hw'
              obtain ⟨wt, wg⟩ := w
              repeat' (cbv; first | refine .y ?_ | refine .n ?_ | refine .split (fun hc => ?_) fun hc => ?_ | refine EqQ.ints rfl (fun hc => ?_) fun hc => ?_ | refine .row ga ?_ | refine .row gw ?_ | refine .wa fun v hv => ?_ | refine .ra fun v hv => ?_ | refine .qa fun v hv => ?_ | refine .len fun v hv => ?_ | refine .all True.intro fun v hv => ?_ | refine Lt.to (by decide) rfl ?_ | (refine .au fun vr vn hvr hvn hvl => ?_; try simp only [List.length_cons, List.length_nil] at hvl) | fail)
              all_goals (try cbv)
              · have hbe : b = false := by rw [hk, decide_eq_false (fun hne => hne (by omega))]; rfl
                subst hbe; refine hQ _ ?_; exact ⟨rfl, rfl, rfl, rfl, rfl⟩
              · rw [decide_eq_true (by omega), Bool.true_and] at hk
                exact hB _ _ ⟨by omega, by omega, by rw [hk, show v.toNat = k.toNat + 1 by omega]⟩ (by omega) rfl
      · rw [decide_eq_false hg, Bool.false_and, Bool.false_and, Bool.false_and] at hi
        try rw [← hP] at c1
        repeat' (cbv; first | refine .y ?_ | refine .n ?_ | refine .split (fun hc => ?_) fun hc => ?_ | refine EqQ.ints rfl (fun hc => ?_) fun hc => ?_ | refine .row ga ?_ | refine .go c1 ?_ | refine .wa fun v hv => ?_ | refine .ra fun v hv => ?_ | refine .qa fun v hv => ?_ | refine .len fun v hv => ?_ | refine .all True.intro fun v hv => ?_ | refine Lt.to (by decide) rfl ?_ | (refine .au fun vr vn hvr hvn hvl => ?_; try simp only [List.length_cons, List.length_nil] at hvl) | fail)
        all_goals (try cbv)
        have hbe : b = false := by rw [hi]
        subst hbe; refine hQ _ ?_; exact ⟨rfl, rfl, rfl, rfl, rfl⟩
end Go.Ab

namespace Go.Ab
open Go Go.Proofs
set_option maxRecDepth 100000

set_option maxHeartbeats 4000000 in
theorem c29 (s t : SD) (lq : s.ps.length ≤ 1000000) (lm : s.ms.length ≤ 1000000) (b : Bool) (hb : b = (decide (s.ps = t.ps) && decide (s.ms = t.ms))) : CallsV Try.prog 29 [.agg (stC s), .agg (stC t)] (.bool b) [.undef, .undef] true := by
  obtain ⟨prog, gs, ps, ms, gl, c0, c1, c2, c3, w0, w1, w2, w3, ts, ck, pr⟩ := s
  obtain ⟨rp, rg, rq, rm, rl, r0, r1, r2, r3, rt, ⟨h_rp, s_rp, l_rp⟩, ⟨h_rg, s_rg, l_rg⟩, ⟨h_rq, s_rq, l_rq⟩, ⟨h_rm, s_rm, l_rm⟩, ⟨h_rl, s_rl, l_rl⟩, ⟨h_r0, s_r0, l_r0⟩, ⟨h_r1, s_r1, l_r1⟩, ⟨h_r2, s_r2, l_r2⟩, ⟨h_r3, s_r3, l_r3⟩, ⟨h_rt, s_rt, l_rt⟩, hst_⟩ := stR prog gs ps ms gl c0 c1 c2 c3 w0 w1 w2 w3 ts ck pr
  obtain ⟨yprog, ygs, yps, yms, ygl, yc0, yc1, yc2, yc3, yw0, yw1, yw2, yw3, yts, yck, ypr⟩ := t
  obtain ⟨yrp, yrg, yrq, yrm, yrl, yr0, yr1, yr2, yr3, yrt, ⟨h_yrp, s_yrp, l_yrp⟩, ⟨h_yrg, s_yrg, l_yrg⟩, ⟨h_yrq, s_yrq, l_yrq⟩, ⟨h_yrm, s_yrm, l_yrm⟩, ⟨h_yrl, s_yrl, l_yrl⟩, ⟨h_yr0, s_yr0, l_yr0⟩, ⟨h_yr1, s_yr1, l_yr1⟩, ⟨h_yr2, s_yr2, l_yr2⟩, ⟨h_yr3, s_yr3, l_yr3⟩, ⟨h_yrt, s_yrt, l_yrt⟩, hst_y⟩ := stR yprog ygs yps yms ygl yc0 yc1 yc2 yc3 yw0 yw1 yw2 yw3 yts yck ypr
  rw [hst_, hst_y]
  dsimp only at lq lm hb
  refine callsV_q hD Try.func29 ok29 rfl rfl (by simp only [List.map_cons, List.map_nil, V.sh, V.shL, stL, s_rp, s_rg, s_rq, s_rm, s_rl, s_r0, s_r1, s_r2, s_r3, s_rt, s_yrp, s_yrg, s_yrq, s_yrm, s_yrl, s_yr0, s_yr1, s_yr2, s_yr3, s_yrt]) fun P Q hP hQ => ?_
  clear hst_ hst_y
  repeat' (cbv; first | refine .y ?_ | refine .n ?_ | refine .split (fun hc => ?_) fun hc => ?_ | refine EqQ.ints rfl (fun hc => ?_) fun hc => ?_ | refine .wa fun v hv => ?_ | refine .ra fun v hv => ?_ | refine .qa fun v hv => ?_ | refine .len fun v hv => ?_ | refine .all True.intro fun v hv => ?_ | refine Lt.to (by decide) rfl ?_ | (refine .au fun vr vn hvr hvn hvl => ?_; try simp only [List.length_cons, List.length_nil] at hvl) | fail)
  all_goals (try cbv)
  · have hl : ps.length = yps.length := by omega
    have hl' : ms.length = yms.length := by omega
    refine LoopQ.to (ι := Int) (fun i => ⟨tab .undef [(2, .ptr 100 0), (3, .ptr 101 0), (5, .int .i64 i)], tab .dead [(100, .box (stL rp rg rq rm rl c0 c1 c2 c3 r0 r1 r2 r3 rt ck pr)), (101, .box (stL yrp yrg yrq yrm yrl yc0 yc1 yc2 yc3 yr0 yr1 yr2 yr3 yrt yck ypr))]⟩)
      (fun i => 0 ≤ i ∧ i.toNat ≤ ps.length ∧ b = (decide (ps.drop i.toNat = yps.drop i.toNat) && decide (ms = yms))) (fun i => ps.length - i.toNat) 0 ⟨by omega, by omega, hb⟩ rfl fun i ⟨i0, i1, hi⟩ A hA => ?_
    rcases drop_cases i1 with ⟨e, hd⟩ | ⟨hlt, x, hd, hx⟩
    · rw [hd, List.drop_eq_nil_of_le (by omega), decide_eq_true rfl, Bool.true_and] at hi
      repeat' (cbv; first | refine .y ?_ | refine .n ?_ | refine .split (fun hc => ?_) fun hc => ?_ | refine EqQ.ints rfl (fun hc => ?_) fun hc => ?_ | refine .wa fun v hv => ?_ | refine .ra fun v hv => ?_ | refine .qa fun v hv => ?_ | refine .len fun v hv => ?_ | refine .all True.intro fun v hv => ?_ | refine Lt.to (by decide) rfl ?_ | (refine .au fun vr vn hvr hvn hvl => ?_; try simp only [List.length_cons, List.length_nil] at hvl) | fail)
      all_goals (try cbv)
      refine LoopQ.to (ι := Int) (fun i => ⟨tab .undef [(2, .ptr 100 0), (3, .ptr 101 0), (6, .int .i64 i)], tab .dead [(100, .box (stL rp rg rq rm rl c0 c1 c2 c3 r0 r1 r2 r3 rt ck pr)), (101, .box (stL yrp yrg yrq yrm yrl yc0 yc1 yc2 yc3 yr0 yr1 yr2 yr3 yrt yck ypr))]⟩)
        (fun i => 0 ≤ i ∧ i.toNat ≤ ms.length ∧ b = decide (ms.drop i.toNat = yms.drop i.toNat)) (fun i => ms.length - i.toNat) 0 ⟨by omega, by omega, hi⟩ rfl fun i ⟨i0, i1, hi⟩ A hA => ?_
      rcases drop_cases i1 with ⟨e, hd⟩ | ⟨hlt, x, hd, hx⟩
      · rw [hd, List.drop_eq_nil_of_le (by omega)] at hi
        repeat' (cbv; first | refine .y ?_ | refine .n ?_ | refine .split (fun hc => ?_) fun hc => ?_ | refine EqQ.ints rfl (fun hc => ?_) fun hc => ?_ | refine .wa fun v hv => ?_ | refine .ra fun v hv => ?_ | refine .qa fun v hv => ?_ | refine .len fun v hv => ?_ | refine .all True.intro fun v hv => ?_ | refine Lt.to (by decide) rfl ?_ | (refine .au fun vr vn hvr hvn hvl => ?_; try simp only [List.length_cons, List.length_nil] at hvl) | fail)
        all_goals (try cbv)
        have hbe : b = true := by rw [hi]; rfl
        subst hbe; refine hQ _ ?_; exact ⟨rfl, rfl, rfl, rfl, rfl⟩
      · obtain ⟨_, y, hd', hy⟩ := (drop_cases (l := yms) (i := i.toNat) (by omega)).resolve_left (by omega)
        rw [hd, hd', same_cons] at hi
        have ga := getD_rows h_rm hx
        have gb := getD_rows h_yrm hy
        obtain ⟨x0, x1⟩ := x
        obtain ⟨y0, y1⟩ := y
        repeat' (cbv; first | refine .y ?_ | refine .n ?_ | refine .split (fun hc => ?_) fun hc => ?_ | refine EqQ.ints rfl (fun hc => ?_) fun hc => ?_ | refine .row ga ?_ | refine .row gb ?_ | refine .wa fun v hv => ?_ | refine .ra fun v hv => ?_ | refine .qa fun v hv => ?_ | refine .len fun v hv => ?_ | refine .all True.intro fun v hv => ?_ | refine Lt.to (by decide) rfl ?_ | (refine .au fun vr vn hvr hvn hvl => ?_; try simp only [List.length_cons, List.length_nil] at hvl) | fail)
        all_goals (try cbv)
        · simp only [eqsP, and_true] at hc
          rw [decide_eq_true (by simp only [MD.mk.injEq]; omega), Bool.true_and] at hi
          exact hA _ _ ⟨by omega, by omega, by rw [hi, show v.toNat = i.toNat + 1 by omega]⟩ (by omega) rfl
        · simp only [eqsP, and_true] at hc
          have hbe : b = false := by rw [hi, decide_eq_false (by simp only [MD.mk.injEq]; omega)]; rfl
          subst hbe; refine hQ _ ?_; exact ⟨rfl, rfl, rfl, rfl, rfl⟩
    · obtain ⟨_, y, hd', hy⟩ := (drop_cases (l := yps) (i := i.toNat) (by omega)).resolve_left (by omega)
      rw [hd, hd', same_cons] at hi
      have ga := getD_rows h_rq hx
      have gb := getD_rows h_yrq hy
      obtain ⟨x0, x1, ⟨x2, x3, x4, x5, x6, x7, x8, x9, x10, x11⟩, x12⟩ := x
      obtain ⟨y0, y1, ⟨y2, y3, y4, y5, y6, y7, y8, y9, y10, y11⟩, y12⟩ := y
      repeat' (cbv; first | refine .y ?_ | refine .n ?_ | refine .split (fun hc => ?_) fun hc => ?_ | refine EqQ.ints rfl (fun hc => ?_) fun hc => ?_ | refine .row ga ?_ | refine .row gb ?_ | refine .wa fun v hv => ?_ | refine .ra fun v hv => ?_ | refine .qa fun v hv => ?_ | refine .len fun v hv => ?_ | refine .all True.intro fun v hv => ?_ | refine Lt.to (by decide) rfl ?_ | (refine .au fun vr vn hvr hvn hvl => ?_; try simp only [List.length_cons, List.length_nil] at hvl) | fail)
      all_goals (try cbv)
      · simp only [eqsP, and_true] at hc
        rw [decide_eq_true (by simp only [PD.mk.injEq, RD.mk.injEq]; omega), Bool.true_and] at hi
        exact hA _ _ ⟨by omega, by omega, by rw [hi, show v.toNat = i.toNat + 1 by omega]⟩ (by omega) rfl
      · simp only [eqsP, and_true] at hc
        have hbe : b = false := by rw [hi, decide_eq_false (by simp only [PD.mk.injEq, RD.mk.injEq]; omega)]; rfl
        subst hbe; refine hQ _ ?_; exact ⟨rfl, rfl, rfl, rfl, rfl⟩
  · have hbe : b = false := by rw [hb, decide_eq_false (p := ms = yms) (fun e => by subst e; omega), Bool.and_false]
    subst hbe; refine hQ _ ?_; exact ⟨rfl, rfl, rfl, rfl, rfl⟩
  · have hbe : b = false := by rw [hb, decide_eq_false (p := ps = yps) (fun e => by subst e; omega), Bool.false_and]
    subst hbe; refine hQ _ ?_; exact ⟨rfl, rfl, rfl, rfl, rfl⟩

set_option maxHeartbeats 8000000 in
theorem c13 (s t : SD) (hs : Fit s) (b : Bool) (hb : b = decide (s = t)) : CallsV Try.prog 13 [.agg (stC s), .agg (stC t)] (.bool b) [.undef, .undef] true := by
  obtain ⟨tps, hps⟩ : ∃ x, x = (decide (s.ps = t.ps) && decide (s.ms = t.ms)) := ⟨_, rfl⟩
  have cps := c29 s t hs.ps hs.ms tps hps
  obtain ⟨prog, gs, ps, ms, gl, c0, c1, c2, c3, w0, w1, w2, w3, ts, ck, pr⟩ := s
  obtain ⟨rp, rg, rq, rm, rl, r0, r1, r2, r3, rt, ⟨h_rp, s_rp, l_rp⟩, ⟨h_rg, s_rg, l_rg⟩, ⟨h_rq, s_rq, l_rq⟩, ⟨h_rm, s_rm, l_rm⟩, ⟨h_rl, s_rl, l_rl⟩, ⟨h_r0, s_r0, l_r0⟩, ⟨h_r1, s_r1, l_r1⟩, ⟨h_r2, s_r2, l_r2⟩, ⟨h_r3, s_r3, l_r3⟩, ⟨h_rt, s_rt, l_rt⟩, hst_⟩ := stR prog gs ps ms gl c0 c1 c2 c3 w0 w1 w2 w3 ts ck pr
  obtain ⟨yprog, ygs, yps, yms, ygl, yc0, yc1, yc2, yc3, yw0, yw1, yw2, yw3, yts, yck, ypr⟩ := t
  obtain ⟨yrp, yrg, yrq, yrm, yrl, yr0, yr1, yr2, yr3, yrt, ⟨h_yrp, s_yrp, l_yrp⟩, ⟨h_yrg, s_yrg, l_yrg⟩, ⟨h_yrq, s_yrq, l_yrq⟩, ⟨h_yrm, s_yrm, l_yrm⟩, ⟨h_yrl, s_yrl, l_yrl⟩, ⟨h_yr0, s_yr0, l_yr0⟩, ⟨h_yr1, s_yr1, l_yr1⟩, ⟨h_yr2, s_yr2, l_yr2⟩, ⟨h_yr3, s_yr3, l_yr3⟩, ⟨h_yrt, s_yrt, l_yrt⟩, hst_y⟩ := stR yprog ygs yps yms ygl yc0 yc1 yc2 yc3 yw0 yw1 yw2 yw3 yts yck ypr
  obtain ⟨fp, fc, fg, fq, fm, fl, f0, f1, f2, f3, ft⟩ := hs
  dsimp only at hb hps fp fc fg fq fm fl f0 f1 f2 f3 ft
  rw [hst_, hst_y] at cps ⊢
  refine callsV_q hD Try.func13 ok13 rfl rfl (by simp only [List.map_cons, List.map_nil, V.sh, V.shL, stL, s_rp, s_rg, s_rq, s_rm, s_rl, s_r0, s_r1, s_r2, s_r3, s_rt, s_yrp, s_yrg, s_yrq, s_yrm, s_yrl, s_yr0, s_yr1, s_yr2, s_yr3, s_yrt]) fun P Q hP hQ => ?_
  clear hst_ hst_y
  obtain ⟨t0, ht0⟩ : ∃ x, x = decide (w0 = yw0) := ⟨_, rfl⟩
  obtain ⟨t1, ht1⟩ : ∃ x, x = decide (w1 = yw1) := ⟨_, rfl⟩
  obtain ⟨t2, ht2⟩ : ∃ x, x = decide (w2 = yw2) := ⟨_, rfl⟩
  obtain ⟨t3, ht3⟩ : ∃ x, x = decide (w3 = yw3) := ⟨_, rfl⟩
  obtain ⟨tl, htl⟩ : ∃ x, x = decide (gl = ygl) := ⟨_, rfl⟩
  obtain ⟨tp, htp⟩ : ∃ x, x = decide (prog = yprog) := ⟨_, rfl⟩
  obtain ⟨tg, htg⟩ : ∃ x, x = decide (gs = ygs) := ⟨_, rfl⟩
  obtain ⟨tt, htt⟩ : ∃ x, x = decide (ts = yts) := ⟨_, rfl⟩
  have i0 := c18 w0 yw0 (by omega) t0 (by simp [ht0])
  have i1 := c18 w1 yw1 (by omega) t1 (by simp [ht1])
  have i2 := c18 w2 yw2 (by omega) t2 (by simp [ht2])
  have i3 := c18 w3 yw3 (by omega) t3 (by simp [ht3])
  have il := c18 gl ygl (by omega) tl (by simp [htl])
  have cp := c27 prog yprog fp fc tp htp
  have cg := c28 gs ygs fg tg htg
  have ct := c30 ts yts ft tt htt
  rw [← h_r0, ← h_yr0] at i0
  rw [← h_r1, ← h_yr1] at i1
  rw [← h_r2, ← h_yr2] at i2
  rw [← h_r3, ← h_yr3] at i3
  rw [← h_rl, ← h_yrl] at il
  rw [← h_rp, ← h_yrp] at cp
  rw [← h_rg, ← h_yrg] at cg
  rw [← h_rt, ← h_yrt] at ct
  have hall : b = (t0 && t1 && t2 && t3 && tp && tg && tps && tl && decide (c0 = yc0 ∧ c1 = yc1 ∧ c2 = yc2 ∧ c3 = yc3) && tt && decide (ck = yck) && decide (pr = ypr)) := by
    rw [hb, hps, ht0, ht1, ht2, ht3, htl, htp, htg, htt]
    simp only [SD.mk.injEq, Bool.decide_and, ← Bool.and_assoc]
    ac_rfl
  clear hb hps ht0 ht1 ht2 ht3 htl htp htg htt
  repeat' (cbv; first | refine .y ?_ | refine .n ?_ | refine .split (fun hc => ?_) fun hc => ?_ | refine EqQ.ints rfl (fun hc => ?_) fun hc => ?_ | refine .wa fun v hv => ?_ | refine .ra fun v hv => ?_ | refine .qa fun v hv => ?_ | refine .len fun v hv => ?_ | refine .all True.intro fun v hv => ?_ | refine Lt.to (by decide) rfl ?_ | (refine .au fun vr vn hvr hvn hvl => ?_; try simp only [List.length_cons, List.length_nil] at hvl) | fail)
  all_goals (try cbv)
  refine LoopQ.to (ι := Int) (fun i => ⟨tab .undef [(2, .ptr 100 0), (3, .ptr 101 0), (5, .int .i64 i)], tab .dead [(100, .box (stL rp rg rq rm rl c0 c1 c2 c3 r0 r1 r2 r3 rt ck pr)), (101, .box (stL yrp yrg yrq yrm yrl yc0 yc1 yc2 yc3 yr0 yr1 yr2 yr3 yrt yck ypr))]⟩)
    (fun i => 0 ≤ i ∧ i ≤ 4 ∧ (1 ≤ i → t0 = true) ∧ (2 ≤ i → t1 = true) ∧ (3 ≤ i → t2 = true) ∧ (4 ≤ i → t3 = true)) (fun i => (4 - i).toNat) 0 ⟨by omega, by omega, by omega, by omega, by omega, by omega⟩ rfl fun i ⟨j0, j1, k0, k1, k2, k3⟩ A hA => ?_
  rcases (show i = 0 ∨ i = 1 ∨ i = 2 ∨ i = 3 ∨ i = 4 by omega) with e | e | e | e | e <;> subst e
  · cases t0 with
    | false =>
      try rw [← hP] at i0
      repeat' (cbv; first | refine .y ?_ | refine .n ?_ | refine .split (fun hc => ?_) fun hc => ?_ | refine EqQ.ints rfl (fun hc => ?_) fun hc => ?_ | refine .go i0 ?_ | refine .wa fun v hv => ?_ | refine .ra fun v hv => ?_ | refine .qa fun v hv => ?_ | refine .len fun v hv => ?_ | refine .all True.intro fun v hv => ?_ | refine Lt.to (by decide) rfl ?_ | (refine .au fun vr vn hvr hvn hvl => ?_; try simp only [List.length_cons, List.length_nil] at hvl) | fail)
      all_goals (try cbv)
      have hbe : b = false := by rw [hall]; rfl
      subst hbe; refine hQ _ ?_; exact ⟨rfl, rfl, rfl, rfl, rfl⟩
    | true =>
      try rw [← hP] at i0
      repeat' (cbv; first | refine .y ?_ | refine .n ?_ | refine .split (fun hc => ?_) fun hc => ?_ | refine EqQ.ints rfl (fun hc => ?_) fun hc => ?_ | refine .go i0 ?_ | refine .wa fun v hv => ?_ | refine .ra fun v hv => ?_ | refine .qa fun v hv => ?_ | refine .len fun v hv => ?_ | refine .all True.intro fun v hv => ?_ | refine Lt.to (by decide) rfl ?_ | (refine .au fun vr vn hvr hvn hvl => ?_; try simp only [List.length_cons, List.length_nil] at hvl) | fail)
      all_goals (try cbv)
      obtain rfl : v = 1 := by omega
      exact hA 1 _ ⟨by omega, by omega, fun _ => rfl, by omega, by omega, by omega⟩ (by omega) rfl
  · have := k0 (by omega); subst this
    cases t1 with
    | false =>
      try rw [← hP] at i1
      repeat' (cbv; first | refine .y ?_ | refine .n ?_ | refine .split (fun hc => ?_) fun hc => ?_ | refine EqQ.ints rfl (fun hc => ?_) fun hc => ?_ | refine .go i1 ?_ | refine .wa fun v hv => ?_ | refine .ra fun v hv => ?_ | refine .qa fun v hv => ?_ | refine .len fun v hv => ?_ | refine .all True.intro fun v hv => ?_ | refine Lt.to (by decide) rfl ?_ | (refine .au fun vr vn hvr hvn hvl => ?_; try simp only [List.length_cons, List.length_nil] at hvl) | fail)
      all_goals (try cbv)
      have hbe : b = false := by rw [hall]; rfl
      subst hbe; refine hQ _ ?_; exact ⟨rfl, rfl, rfl, rfl, rfl⟩
    | true =>
      try rw [← hP] at i1
      repeat' (cbv; first | refine .y ?_ | refine .n ?_ | refine .split (fun hc => ?_) fun hc => ?_ | refine EqQ.ints rfl (fun hc => ?_) fun hc => ?_ | refine .go i1 ?_ | refine .wa fun v hv => ?_ | refine .ra fun v hv => ?_ | refine .qa fun v hv => ?_ | refine .len fun v hv => ?_ | refine .all True.intro fun v hv => ?_ | refine Lt.to (by decide) rfl ?_ | (refine .au fun vr vn hvr hvn hvl => ?_; try simp only [List.length_cons, List.length_nil] at hvl) | fail)
      all_goals (try cbv)
      obtain rfl : v = 2 := by omega
      exact hA 2 _ ⟨by omega, by omega, fun _ => rfl, fun _ => rfl, by omega, by omega⟩ (by omega) rfl
  · have := k0 (by omega); subst this
    have := k1 (by omega); subst this
    cases t2 with
    | false =>
      try rw [← hP] at i2
      repeat' (cbv; first | refine .y ?_ | refine .n ?_ | refine .split (fun hc => ?_) fun hc => ?_ | refine EqQ.ints rfl (fun hc => ?_) fun hc => ?_ | refine .go i2 ?_ | refine .wa fun v hv => ?_ | refine .ra fun v hv => ?_ | refine .qa fun v hv => ?_ | refine .len fun v hv => ?_ | refine .all True.intro fun v hv => ?_ | refine Lt.to (by decide) rfl ?_ | (refine .au fun vr vn hvr hvn hvl => ?_; try simp only [List.length_cons, List.length_nil] at hvl) | fail)
      all_goals (try cbv)
      have hbe : b = false := by rw [hall]; rfl
      subst hbe; refine hQ _ ?_; exact ⟨rfl, rfl, rfl, rfl, rfl⟩
    | true =>
      try rw [← hP] at i2
      repeat' (cbv; first | refine .y ?_ | refine .n ?_ | refine .split (fun hc => ?_) fun hc => ?_ | refine EqQ.ints rfl (fun hc => ?_) fun hc => ?_ | refine .go i2 ?_ | refine .wa fun v hv => ?_ | refine .ra fun v hv => ?_ | refine .qa fun v hv => ?_ | refine .len fun v hv => ?_ | refine .all True.intro fun v hv => ?_ | refine Lt.to (by decide) rfl ?_ | (refine .au fun vr vn hvr hvn hvl => ?_; try simp only [List.length_cons, List.length_nil] at hvl) | fail)
      all_goals (try cbv)
      obtain rfl : v = 3 := by omega
      exact hA 3 _ ⟨by omega, by omega, fun _ => rfl, fun _ => rfl, fun _ => rfl, by omega⟩ (by omega) rfl
  · have := k0 (by omega); subst this
    have := k1 (by omega); subst this
    have := k2 (by omega); subst this
    cases t3 with
    | false =>
      try rw [← hP] at i3
      repeat' (cbv; first | refine .y ?_ | refine .n ?_ | refine .split (fun hc => ?_) fun hc => ?_ | refine EqQ.ints rfl (fun hc => ?_) fun hc => ?_ | refine .go i3 ?_ | refine .wa fun v hv => ?_ | refine .ra fun v hv => ?_ | refine .qa fun v hv => ?_ | refine .len fun v hv => ?_ | refine .all True.intro fun v hv => ?_ | refine Lt.to (by decide) rfl ?_ | (refine .au fun vr vn hvr hvn hvl => ?_; try simp only [List.length_cons, List.length_nil] at hvl) | fail)
      all_goals (try cbv)
      have hbe : b = false := by rw [hall]; rfl
      subst hbe; refine hQ _ ?_; exact ⟨rfl, rfl, rfl, rfl, rfl⟩
    | true =>
      try rw [← hP] at i3
      repeat' (cbv; first | refine .y ?_ | refine .n ?_ | refine .split (fun hc => ?_) fun hc => ?_ | refine EqQ.ints rfl (fun hc => ?_) fun hc => ?_ | refine .go i3 ?_ | refine .wa fun v hv => ?_ | refine .ra fun v hv => ?_ | refine .qa fun v hv => ?_ | refine .len fun v hv => ?_ | refine .all True.intro fun v hv => ?_ | refine Lt.to (by decide) rfl ?_ | (refine .au fun vr vn hvr hvn hvl => ?_; try simp only [List.length_cons, List.length_nil] at hvl) | fail)
      all_goals (try cbv)
      obtain rfl : v = 4 := by omega
      exact hA 4 _ ⟨by omega, by omega, fun _ => rfl, fun _ => rfl, fun _ => rfl, fun _ => rfl⟩ (by omega) rfl
  · have := k0 (by omega); subst this
    have := k1 (by omega); subst this
    have := k2 (by omega); subst this
    have := k3 (by omega); subst this
    simp only [Bool.true_and] at hall
    cases tp with
    | false =>
      try rw [← hP] at cp
      repeat' (cbv; first | refine .y ?_ | refine .n ?_ | refine .split (fun hc => ?_) fun hc => ?_ | refine EqQ.ints rfl (fun hc => ?_) fun hc => ?_ | refine .go cp ?_ | refine .wa fun v hv => ?_ | refine .ra fun v hv => ?_ | refine .qa fun v hv => ?_ | refine .len fun v hv => ?_ | refine .all True.intro fun v hv => ?_ | refine Lt.to (by decide) rfl ?_ | (refine .au fun vr vn hvr hvn hvl => ?_; try simp only [List.length_cons, List.length_nil] at hvl) | fail)
      all_goals (try cbv)
      have hbe : b = false := by rw [hall]; rfl
      subst hbe; refine hQ _ ?_; exact ⟨rfl, rfl, rfl, rfl, rfl⟩
    | true =>
    cases tg with
    | false =>
      try rw [← hP] at cp
      try rw [← hP] at cg
      repeat' (cbv; first | refine .y ?_ | refine .n ?_ | refine .split (fun hc => ?_) fun hc => ?_ | refine EqQ.ints rfl (fun hc => ?_) fun hc => ?_ | refine .go cp ?_ | refine .go cg ?_ | refine .wa fun v hv => ?_ | refine .ra fun v hv => ?_ | refine .qa fun v hv => ?_ | refine .len fun v hv => ?_ | refine .all True.intro fun v hv => ?_ | refine Lt.to (by decide) rfl ?_ | (refine .au fun vr vn hvr hvn hvl => ?_; try simp only [List.length_cons, List.length_nil] at hvl) | fail)
      all_goals (try cbv)
      have hbe : b = false := by rw [hall]; rfl
      subst hbe; refine hQ _ ?_; exact ⟨rfl, rfl, rfl, rfl, rfl⟩
    | true =>
    cases tps with
    | false =>
      try rw [← hP] at cp
      try rw [← hP] at cg
      try rw [← hP] at cps
      repeat' (cbv; first | refine .y ?_ | refine .n ?_ | refine .split (fun hc => ?_) fun hc => ?_ | refine EqQ.ints rfl (fun hc => ?_) fun hc => ?_ | refine .go cp ?_ | refine .go cg ?_ | refine .go cps ?_ | refine .wa fun v hv => ?_ | refine .ra fun v hv => ?_ | refine .qa fun v hv => ?_ | refine .len fun v hv => ?_ | refine .all True.intro fun v hv => ?_ | refine Lt.to (by decide) rfl ?_ | (refine .au fun vr vn hvr hvn hvl => ?_; try simp only [List.length_cons, List.length_nil] at hvl) | fail)
      all_goals (try cbv)
      have hbe : b = false := by rw [hall]; rfl
      subst hbe; refine hQ _ ?_; exact ⟨rfl, rfl, rfl, rfl, rfl⟩
    | true =>
    cases tl with
    | false =>
      try rw [← hP] at cp
      try rw [← hP] at cg
      try rw [← hP] at cps
      try rw [← hP] at il
      repeat' (cbv; first | refine .y ?_ | refine .n ?_ | refine .split (fun hc => ?_) fun hc => ?_ | refine EqQ.ints rfl (fun hc => ?_) fun hc => ?_ | refine .go cp ?_ | refine .go cg ?_ | refine .go cps ?_ | refine .go il ?_ | refine .wa fun v hv => ?_ | refine .ra fun v hv => ?_ | refine .qa fun v hv => ?_ | refine .len fun v hv => ?_ | refine .all True.intro fun v hv => ?_ | refine Lt.to (by decide) rfl ?_ | (refine .au fun vr vn hvr hvn hvl => ?_; try simp only [List.length_cons, List.length_nil] at hvl) | fail)
      all_goals (try cbv)
      have hbe : b = false := by rw [hall]; rfl
      subst hbe; refine hQ _ ?_; exact ⟨rfl, rfl, rfl, rfl, rfl⟩
    | true =>
    cases tt with
    | false =>
      try rw [← hP] at cp
      try rw [← hP] at cg
      try rw [← hP] at cps
      try rw [← hP] at il
      try rw [← hP] at ct
      repeat' (cbv; first | refine .y ?_ | refine .n ?_ | refine .split (fun hc => ?_) fun hc => ?_ | refine EqQ.ints rfl (fun hc => ?_) fun hc => ?_ | refine .go cp ?_ | refine .go cg ?_ | refine .go cps ?_ | refine .go il ?_ | refine .go ct ?_ | refine .wa fun v hv => ?_ | refine .ra fun v hv => ?_ | refine .qa fun v hv => ?_ | refine .len fun v hv => ?_ | refine .all True.intro fun v hv => ?_ | refine Lt.to (by decide) rfl ?_ | (refine .au fun vr vn hvr hvn hvl => ?_; try simp only [List.length_cons, List.length_nil] at hvl) | fail)
      all_goals (try cbv)
      all_goals
        have hbe : b = false := by rw [hall, Bool.and_false]; rfl
        subst hbe; (refine hQ _ ?_; exact ⟨rfl, rfl, rfl, rfl, rfl⟩)
    | true =>
      simp only [Bool.true_and, Bool.and_true] at hall
      try rw [← hP] at cp
      try rw [← hP] at cg
      try rw [← hP] at cps
      try rw [← hP] at il
      try rw [← hP] at ct
      repeat' (cbv; first | refine .y ?_ | refine .n ?_ | refine .split (fun hc => ?_) fun hc => ?_ | refine EqQ.ints rfl (fun hc => ?_) fun hc => ?_ | refine .go cp ?_ | refine .go cg ?_ | refine .go cps ?_ | refine .go il ?_ | refine .go ct ?_ | refine .wa fun v hv => ?_ | refine .ra fun v hv => ?_ | refine .qa fun v hv => ?_ | refine .len fun v hv => ?_ | refine .all True.intro fun v hv => ?_ | refine Lt.to (by decide) rfl ?_ | (refine .au fun vr vn hvr hvn hvl => ?_; try simp only [List.length_cons, List.length_nil] at hvl) | fail)
      all_goals (try cbv)
      all_goals
        simp only [eqsP, and_true] at *
        first
        | (have hbe : b = true := by rw [hall, decide_eq_true (by omega), decide_eq_true (by omega), decide_eq_true (by omega)]; rfl
           subst hbe; (refine hQ _ ?_; exact ⟨rfl, rfl, rfl, rfl, rfl⟩))
        | (have hbe : b = false := by rw [hall, decide_eq_false (p := pr = ypr) (by omega), Bool.and_false]
           subst hbe; (refine hQ _ ?_; exact ⟨rfl, rfl, rfl, rfl, rfl⟩))
        | (have hbe : b = false := by rw [hall, decide_eq_false (p := ck = yck) (by omega), Bool.and_false, Bool.false_and]
           subst hbe; (refine hQ _ ?_; exact ⟨rfl, rfl, rfl, rfl, rfl⟩))
        | (have hbe : b = false := by rw [hall, decide_eq_false (p := c0 = yc0 ∧ c1 = yc1 ∧ c2 = yc2 ∧ c3 = yc3) (by omega), Bool.false_and, Bool.false_and]
           subst hbe; (refine hQ _ ?_; exact ⟨rfl, rfl, rfl, rfl, rfl⟩))
end Go.Ab

namespace Go.Ab
open Go Go.Proofs
set_option maxRecDepth 100000

def RD.f (r : RD) : Nat → Int
  | 0 => r.b0
  | 1 => r.b1
  | 2 => r.b2
  | 3 => r.b3
  | 4 => r.b4
  | 5 => r.b5
  | 6 => r.b6
  | 7 => r.b7
  | _ => 0
theorem rC_ring (r : RD) : rC r = ringC r.f r.h r.n := rfl

def mayR (r : RD) : Bool := decide (0 ≤ r.h ∧ r.h < 8 ∧ 0 ≤ r.n ∧ r.n ≤ 8) && (List.range 8).all fun i : Nat => if (i : Int) < r.n then decide (1 ≤ r.f (idx r.h i)) else decide (r.f (idx r.h i) = 0)
theorem mayR_iff (r : RD) : mayR r = true ↔ May r.f r.h r.n := by
  unfold mayR May
  simp only [Bool.and_eq_true, decide_eq_true_eq, List.all_eq_true, List.mem_range]
  constructor
  · rintro ⟨⟨h0, h1, h2, h3⟩, hall⟩
    refine ⟨h0, h1, h2, h3, fun i i0 i1 => ?_⟩
    have := hall i.toNat (by omega)
    rw [show ((i.toNat : Nat) : Int) = i by omega] at this
    split at this
    · exact ⟨fun _ => by simpa using this, fun _ => by omega⟩
    · exact ⟨fun _ => by omega, fun _ => by simpa using this⟩
  · rintro ⟨h0, h1, h2, h3, hall⟩
    refine ⟨⟨h0, h1, h2, h3⟩, fun i hi => ?_⟩
    have := hall (i : Int) (by omega) (by omega)
    split
    · rename_i h; simpa using this.1 h
    · rename_i h; simpa using this.2 (by omega)
def listR (r : RD) : List Int := if mayR r then (List.range r.n.toNat).map fun i : Nat => r.f (idx r.h i) else []
theorem listR_is {r : RD} (h : mayR r = true) : RingIs r.f r.h r.n (listR r) := by
  obtain ⟨h0, h1, m0, m1, hall⟩ := (mayR_iff r).1 h
  unfold listR
  rw [if_pos h]
  refine ⟨h0, h1, by simp; omega, by simp; omega, fun x hx => ?_, fun j hj => ?_⟩
  · simp only [List.mem_map, List.mem_range] at hx
    obtain ⟨i, hi, rfl⟩ := hx
    exact (hall i (by omega) (by omega)).1 (by omega)
  · have e : idx r.h ((j - r.h + 8) % 8) = j := by unfold idx; omega
    by_cases c : (j - r.h + 8) % 8 < r.n
    · rw [List.getD_eq_getElem?_getD, List.getElem?_map, List.getElem?_range (by omega)]
      simp only [Option.map_some, Option.getD_some]
      rw [show (((((j : Int) - r.h + 8) % 8).toNat : Nat) : Int) = (j - r.h + 8) % 8 by omega, e]
    · rw [getD_zero (by simp; omega), ← e]
      exact (hall ((j - r.h + 8) % 8) (by omega) (by omega)).2 (by omega)
theorem listR_len (r : RD) : (listR r).length ≤ 8 := by
  cases h : mayR r with
  | true => exact (listR_is h).m1
  | false => simp [listR, h]

theorem r_rMay (r : RD) (b : Bool) (hb : b = mayR r) : CallsV Try.prog 62 [.agg (rC r)] (.bool b) [.undef] true := by
  rw [rC_ring]; exact c62 r.f r.h r.n b (by rw [hb]; exact mayR_iff r)
theorem r_rList (r : RD) : CallsV Try.prog 63 [.agg (rC r)] (.own 1 ((listR r).map iC)) [.undef] true := by
  cases h : mayR r with
  | true => rw [rC_ring]; exact c63 r.f r.h r.n (listR r) (listR_is h)
  | false =>
    have e : listR r = [] := by simp [listR, h]
    rw [e]
    have cm := r_rMay r false h.symm
    obtain ⟨b0, b1, b2, b3, b4, b5, b6, b7, hh, n⟩ := r
    refine callsV_q hD Try.func63 ok63 rfl rfl rfl fun P Q hP hQ => ?_
    repeat' (cbv; first | refine .y ?_ | refine .n ?_ | refine .split (fun hc => ?_) fun hc => ?_ | refine EqQ.ints rfl (fun hc => ?_) fun hc => ?_ | refine .wa fun v hv => ?_ | refine .ra fun v hv => ?_ | refine .qa fun v hv => ?_ | refine .len fun v hv => ?_ | refine .all True.intro fun v hv => ?_ | refine Lt.to (by decide) rfl ?_ | (refine .au fun vr vn hvr hvn hvl => ?_; try simp only [List.length_cons, List.length_nil] at hvl) | fail)
    all_goals (try cbv)
    refine LoopQ.to (ι := Unit) (fun _ => ⟨tab .undef [(1, .ptr 100 0), (3, .sref 101 0 0), (4, .int .i64 0)], tab .dead [(100, .box (rC ⟨b0, b1, b2, b3, b4, b5, b6, b7, hh, n⟩)), (101, .rows 1 [])]⟩)
      (fun _ => True) (fun _ => 0) () trivial rfl fun _ _ A hA => ?_
    try rw [← hP] at cm
    repeat' (cbv; first | refine .y ?_ | refine .n ?_ | refine .split (fun hc => ?_) fun hc => ?_ | refine EqQ.ints rfl (fun hc => ?_) fun hc => ?_ | refine .go cm ?_ | refine .wa fun v hv => ?_ | refine .ra fun v hv => ?_ | refine .qa fun v hv => ?_ | refine .len fun v hv => ?_ | refine .all True.intro fun v hv => ?_ | refine Lt.to (by decide) rfl ?_ | (refine .au fun vr vn hvr hvn hvl => ?_; try simp only [List.length_cons, List.length_nil] at hvl) | fail)
    all_goals (try cbv)
    (refine hQ _ ?_; exact ⟨rfl, rfl, rfl, rfl, rfl⟩)

def queueOf (p : PD) : List Int := (if p.nx = 0 then [] else [p.nx]) ++ listR p.r
theorem queueOf_len (p : PD) : (queueOf p).length ≤ 9 := by
  have := listR_len p.r
  unfold queueOf; split <;> simp <;> omega

set_option maxHeartbeats 1000000 in
theorem c44 (p : PD) : CallsV Try.prog 44 [.agg (pC p)] (.own 1 ((queueOf p).map iC)) [.undef] true := by
  have cl := r_rList p.r
  have hl := listR_len p.r
  obtain ⟨q, hq⟩ : ∃ q, q = listR p.r := ⟨_, rfl⟩
  unfold queueOf
  rw [← hq] at cl hl ⊢
  obtain ⟨m, nx, ⟨b0, b1, b2, b3, b4, b5, b6, b7, hh, n⟩, sq⟩ := p
  dsimp only at cl ⊢
  clear hq
  obtain ⟨rl, h_rl⟩ : ∃ r, r = q.map iC := ⟨_, rfl⟩
  have s_rl : V.shR rl = rl := by rw [h_rl]; exact shR_iC q
  have l_rl : rl.length = q.length := by simp [h_rl]
  rw [← h_rl] at cl
  refine callsV_q hD Try.func44 ok44 rfl rfl rfl fun P Q hP hQ => ?_
  try rw [← hP] at cl
  repeat' (cbv; first | refine .y ?_ | refine .n ?_ | refine .split (fun hc => ?_) fun hc => ?_ | refine EqQ.ints rfl (fun hc => ?_) fun hc => ?_ | refine .go cl ?_ | refine .wa fun v hv => ?_ | refine .ra fun v hv => ?_ | refine .qa fun v hv => ?_ | refine .len fun v hv => ?_ | refine .all True.intro fun v hv => ?_ | refine Lt.to (by decide) rfl ?_ | (refine .au fun vr vn hvr hvn hvl => ?_; try simp only [List.length_cons, List.length_nil] at hvl) | fail)
  all_goals (try cbv)
  · (subst_vars; refine hQ _ ?_; exact (Leave.own rfl rfl (by simp) (by simp [iC]) (by simp [okRows_app, okRows_cons, okRows_nil, V.fresh, fr_iC, fr_jC, fr_gC, fr_pC, fr_mC, fr_tC, fr_fC, fr_iCf]) rfl))
  · (subst_vars; refine hQ _ ?_; exact (Leave.own rfl rfl (by simp) (by simp [hc, iC]) (by simp [okRows_app, okRows_cons, okRows_nil, V.fresh, fr_iC, fr_jC, fr_gC, fr_pC, fr_mC, fr_tC, fr_fC, fr_iCf]) rfl))

def timesL (l : List Int) (n : Int) : Int := l.count n
theorem c22 (l : List Int) (hl : l.length ≤ 1000000000) (n z : Int) (hz : z = timesL l n) : CallsV Try.prog 22 [.sl false 1 (l.map iC), .int .i64 n] (.int .i64 z) [.undef, .undef] true := by
  obtain ⟨ra, h_ra⟩ : ∃ r, r = l.map iC := ⟨_, rfl⟩
  have s_ra : V.shR ra = ra := by rw [h_ra]; exact shR_iC l
  have l_ra : ra.length = l.length := by simp [h_ra]
  rw [← h_ra]
  refine callsV_q hD Try.func22 ok22 rfl rfl (by simp only [List.map_cons, List.map_nil, V.sh, V.shL, stL, s_ra]) fun P Q hP hQ => ?_
  obtain ⟨c, hc0⟩ : ∃ c : Nat, c = l.count n := ⟨_, rfl⟩
  have hz' : 0 ≤ z ∧ z.toNat = c := by rw [hz, timesL, hc0]; omega
  clear hz
  repeat' (cbv; first | refine .y ?_ | refine .n ?_ | refine .split (fun hc => ?_) fun hc => ?_ | refine EqQ.ints rfl (fun hc => ?_) fun hc => ?_ | refine .wa fun v hv => ?_ | refine .ra fun v hv => ?_ | refine .qa fun v hv => ?_ | refine .len fun v hv => ?_ | refine .all True.intro fun v hv => ?_ | refine Lt.to (by decide) rfl ?_ | (refine .au fun vr vn hvr hvn hvl => ?_; try simp only [List.length_cons, List.length_nil] at hvl) | fail)
  all_goals (try cbv)
  refine LoopQ.to (ι := Int × Int) (fun p => ⟨tab .undef [(0, .sl false 1 ra), (1, .int .i64 n), (5, .int .i64 p.2), (6, .int .i64 p.1)], tab .dead []⟩)
    (fun p => 0 ≤ p.1 ∧ p.1.toNat ≤ l.length ∧ 0 ≤ p.2 ∧ p.2 ≤ p.1 ∧ p.2.toNat + (l.drop p.1.toNat).count n = c) (fun p => l.length - p.1.toNat) (0, 0) ⟨by simp, by simp, by simp, by simp, by simp [hc0]⟩ rfl fun ⟨i, m⟩ ⟨i0, i1, m0, m1, hm⟩ A hA => ?_
  dsimp only at i0 i1 m0 m1 hm ⊢
  rcases drop_cases i1 with ⟨e, hd⟩ | ⟨hlt, x, hd, hx⟩
  · rw [hd, List.count_nil] at hm
    repeat' (cbv; first | refine .y ?_ | refine .n ?_ | refine .split (fun hc => ?_) fun hc => ?_ | refine EqQ.ints rfl (fun hc => ?_) fun hc => ?_ | refine .wa fun v hv => ?_ | refine .ra fun v hv => ?_ | refine .qa fun v hv => ?_ | refine .len fun v hv => ?_ | refine .all True.intro fun v hv => ?_ | refine Lt.to (by decide) rfl ?_ | (refine .au fun vr vn hvr hvn hvl => ?_; try simp only [List.length_cons, List.length_nil] at hvl) | fail)
    all_goals (try cbv)
    obtain rfl : z = m := by omega
    (refine hQ _ ?_; exact ⟨rfl, rfl, rfl, rfl, rfl⟩)
  · rw [hd, List.count_cons] at hm
    have ga : ra.getD i.toNat [] = [.int .i64 x] := getD_rows h_ra hx
    repeat' (cbv; first | refine .y ?_ | refine .n ?_ | refine .split (fun hc => ?_) fun hc => ?_ | refine EqQ.ints rfl (fun hc => ?_) fun hc => ?_ | refine .row ga ?_ | refine .wa fun v hv => ?_ | refine .ra fun v hv => ?_ | refine .qa fun v hv => ?_ | refine .len fun v hv => ?_ | refine .all True.intro fun v hv => ?_ | refine Lt.to (by decide) rfl ?_ | (refine .au fun vr vn hvr hvn hvl => ?_; try simp only [List.length_cons, List.length_nil] at hvl) | fail)
    all_goals (try cbv)
    · rw [if_pos (by simpa using hc)] at hm
      rename_i w hw
      exact hA (v, w) _ ⟨by dsimp only; omega, by dsimp only; omega, by dsimp only; omega, by dsimp only; omega, by dsimp only; rw [show v.toNat = i.toNat + 1 by omega]; omega⟩ (by dsimp only; omega) rfl
    · rw [if_neg (by simpa using hc)] at hm
      exact hA (v, m) _ ⟨by dsimp only; omega, by dsimp only; omega, by dsimp only; omega, by dsimp only; omega, by dsimp only; rw [show v.toNat = i.toNat + 1 by omega]; omega⟩ (by dsimp only; omega) rfl

theorem c38 (l : List Int) (hl : l.length ≤ 1000000000) (n : Int) (b : Bool) (hb : b = l.all fun x => decide (1 ≤ x ∧ x ≤ n)) : CallsV Try.prog 38 [.sl false 1 (l.map iC), .int .i64 n] (.bool b) [.undef, .undef] true := by
  obtain ⟨ra, h_ra⟩ : ∃ r, r = l.map iC := ⟨_, rfl⟩
  have s_ra : V.shR ra = ra := by rw [h_ra]; exact shR_iC l
  have l_ra : ra.length = l.length := by simp [h_ra]
  rw [← h_ra]
  refine callsV_q hD Try.func38 ok38 rfl rfl (by simp only [List.map_cons, List.map_nil, V.sh, V.shL, stL, s_ra]) fun P Q hP hQ => ?_
  repeat' (cbv; first | refine .y ?_ | refine .n ?_ | refine .split (fun hc => ?_) fun hc => ?_ | refine EqQ.ints rfl (fun hc => ?_) fun hc => ?_ | refine .wa fun v hv => ?_ | refine .ra fun v hv => ?_ | refine .qa fun v hv => ?_ | refine .len fun v hv => ?_ | refine .all True.intro fun v hv => ?_ | refine Lt.to (by decide) rfl ?_ | (refine .au fun vr vn hvr hvn hvl => ?_; try simp only [List.length_cons, List.length_nil] at hvl) | fail)
  all_goals (try cbv)
  refine LoopQ.to (ι := Int) (fun i => ⟨tab .undef [(0, .sl false 1 ra), (1, .int .i64 n), (5, .int .i64 i)], tab .dead []⟩)
    (fun i => 0 ≤ i ∧ i.toNat ≤ l.length ∧ b = (l.drop i.toNat).all fun x => decide (1 ≤ x ∧ x ≤ n)) (fun i => l.length - i.toNat) 0 ⟨by omega, by omega, hb⟩ rfl fun i ⟨i0, i1, hi⟩ A hA => ?_
  rcases drop_cases i1 with ⟨e, hd⟩ | ⟨hlt, x, hd, hx⟩
  · rw [hd] at hi
    repeat' (cbv; first | refine .y ?_ | refine .n ?_ | refine .split (fun hc => ?_) fun hc => ?_ | refine EqQ.ints rfl (fun hc => ?_) fun hc => ?_ | refine .wa fun v hv => ?_ | refine .ra fun v hv => ?_ | refine .qa fun v hv => ?_ | refine .len fun v hv => ?_ | refine .all True.intro fun v hv => ?_ | refine Lt.to (by decide) rfl ?_ | (refine .au fun vr vn hvr hvn hvl => ?_; try simp only [List.length_cons, List.length_nil] at hvl) | fail)
    all_goals (try cbv)
    have hbe : b = true := by rw [hi]; rfl
    subst hbe; refine hQ _ ?_; exact ⟨rfl, rfl, rfl, rfl, rfl⟩
  · rw [hd, List.all_cons] at hi
    have ga : ra.getD i.toNat [] = [.int .i64 x] := getD_rows h_ra hx
    repeat' (cbv; first | refine .y ?_ | refine .n ?_ | refine .split (fun hc => ?_) fun hc => ?_ | refine EqQ.ints rfl (fun hc => ?_) fun hc => ?_ | refine .row ga ?_ | refine .wa fun v hv => ?_ | refine .ra fun v hv => ?_ | refine .qa fun v hv => ?_ | refine .len fun v hv => ?_ | refine .all True.intro fun v hv => ?_ | refine Lt.to (by decide) rfl ?_ | (refine .au fun vr vn hvr hvn hvl => ?_; try simp only [List.length_cons, List.length_nil] at hvl) | fail)
    all_goals (try cbv)
    · have hbe : b = false := by rw [hi, decide_eq_false (by omega)]; rfl
      subst hbe; refine hQ _ ?_; exact ⟨rfl, rfl, rfl, rfl, rfl⟩
    · have hbe : b = false := by rw [hi, decide_eq_false (by omega)]; rfl
      subst hbe; refine hQ _ ?_; exact ⟨rfl, rfl, rfl, rfl, rfl⟩
    · rw [decide_eq_true (by omega), Bool.true_and] at hi
      exact hA _ _ ⟨by omega, by omega, by rw [hi, show v.toNat = i.toNat + 1 by omega]⟩ (by omega) rfl

def runnables (s : SD) : List Int := s.ps.flatMap queueOf ++ s.gl
theorem flat_len : ∀ (l : List PD), (l.flatMap queueOf).length ≤ 9 * l.length
  | [] => by simp
  | p :: l => by
    have := flat_len l
    have := queueOf_len p
    simp only [List.flatMap_cons, List.length_append, List.length_cons]; omega
structure RunI where
  i : Int
  rs : List (List V)
  n : Nat
set_option maxHeartbeats 4000000 in
theorem c23 (s : SD) (hq : s.ps.length ≤ 1000000) (hg : s.gl.length ≤ 1000000) : CallsV Try.prog 23 [.agg (stC s)] (.own 1 ((runnables s).map iC)) [.undef] true := by
  unfold runnables
  have hfl := flat_len s.ps
  obtain ⟨prog, gs, ps, ms, gl, c0, c1, c2, c3, w0, w1, w2, w3, ts, ck, pr⟩ := s
  obtain ⟨rp, rg, rq, rm, rl, r0, r1, r2, r3, rt, ⟨h_rp, s_rp, l_rp⟩, ⟨h_rg, s_rg, l_rg⟩, ⟨h_rq, s_rq, l_rq⟩, ⟨h_rm, s_rm, l_rm⟩, ⟨h_rl, s_rl, l_rl⟩, ⟨h_r0, s_r0, l_r0⟩, ⟨h_r1, s_r1, l_r1⟩, ⟨h_r2, s_r2, l_r2⟩, ⟨h_r3, s_r3, l_r3⟩, ⟨h_rt, s_rt, l_rt⟩, hst_⟩ := stR prog gs ps ms gl c0 c1 c2 c3 w0 w1 w2 w3 ts ck pr
  dsimp only at hq hg hfl ⊢
  rw [hst_]
  refine callsV_q hD Try.func23 ok23 rfl rfl (by simp only [List.map_cons, List.map_nil, V.sh, V.shL, stL, s_rp, s_rg, s_rq, s_rm, s_rl, s_r0, s_r1, s_r2, s_r3, s_rt]) fun P Q hP hQ => ?_
  clear hst_
  repeat' (cbv; first | refine .y ?_ | refine .n ?_ | refine .split (fun hc => ?_) fun hc => ?_ | refine EqQ.ints rfl (fun hc => ?_) fun hc => ?_ | refine .wa fun v hv => ?_ | refine .ra fun v hv => ?_ | refine .qa fun v hv => ?_ | refine .len fun v hv => ?_ | refine .all True.intro fun v hv => ?_ | refine Lt.to (by decide) rfl ?_ | (refine .au fun vr vn hvr hvn hvl => ?_; try simp only [List.length_cons, List.length_nil] at hvl) | fail)
  all_goals (try cbv)
  refine LoopQ.to (ι := RunI) (fun p => ⟨tab .undef [(1, .ptr 100 0), (3, .sref 101 0 p.n), (4, .int .i64 p.i)], tab .dead [(100, .box (stL rp rg rq rm rl c0 c1 c2 c3 r0 r1 r2 r3 rt ck pr)), (101, .rows 1 p.rs)]⟩)
    (fun p => 0 ≤ p.i ∧ p.i.toNat ≤ ps.length ∧ p.rs = ((ps.take p.i.toNat).flatMap queueOf).map iC ∧ p.n = p.rs.length) (fun p => ps.length - p.i.toNat) ⟨0, [], 0⟩ ⟨by simp, by simp, by simp, rfl⟩ rfl fun ⟨i, rs, n⟩ ⟨i0, i1, hrs, hn⟩ A hA => ?_
  dsimp only at i0 i1 hrs hn ⊢
  have lrs : rs.length ≤ 9 * i.toNat := by
    have := flat_len (ps.take i.toNat)
    rw [hrs, List.length_map]; simp at this ⊢; omega
  rcases drop_cases i1 with ⟨e, hd⟩ | ⟨hlt, x, hd, hx⟩
  · rw [e, List.take_length] at hrs
    repeat' (cbv; first | refine .y ?_ | refine .n ?_ | refine .split (fun hc => ?_) fun hc => ?_ | refine EqQ.ints rfl (fun hc => ?_) fun hc => ?_ | refine .wa fun v hv => ?_ | refine .ra fun v hv => ?_ | refine .qa fun v hv => ?_ | refine .len fun v hv => ?_ | refine .all True.intro fun v hv => ?_ | refine Lt.to (by decide) rfl ?_ | (refine .au fun vr vn hvr hvn hvl => ?_; try simp only [List.length_cons, List.length_nil] at hvl) | fail)
    all_goals (try cbv)
    (subst_vars; refine hQ _ ?_; exact (Leave.own rfl rfl (by simp) (by simp [iC]) (by simp [okRows_app, okRows_cons, okRows_nil, V.fresh, fr_iC, fr_jC, fr_gC, fr_pC, fr_mC, fr_tC, fr_fC, fr_iCf]) rfl))
  · have ga := getD_rows h_rq hx
    have cq := c44 x
    have lq := queueOf_len x
    obtain ⟨q, hq'⟩ : ∃ q, q = queueOf x := ⟨_, rfl⟩
    have ht := take_succ_of hx
    rw [← hq'] at cq lq
    have hnext : rs ++ q.map iC = ((ps.take (i.toNat + 1)).flatMap queueOf).map iC := by
      rw [ht, List.flatMap_append, List.map_append, ← hrs]; simp [hq']
    clear hrs ht hq'
    obtain ⟨x0, x1, ⟨x2, x3, x4, x5, x6, x7, x8, x9, x10, x11⟩, x12⟩ := x
    obtain ⟨rw, h_rw⟩ : ∃ r, r = q.map iC := ⟨_, rfl⟩
    have s_rw : V.shR rw = rw := by rw [h_rw]; exact shR_iC q
    have l_rw : rw.length = q.length := by simp [h_rw]
    rw [← h_rw] at cq hnext
    try rw [← hP] at cq
    repeat' (cbv; first | refine .y ?_ | refine .n ?_ | refine .split (fun hc => ?_) fun hc => ?_ | refine EqQ.ints rfl (fun hc => ?_) fun hc => ?_ | refine .row ga ?_ | refine .go cq ?_ | refine .wa fun v hv => ?_ | refine .ra fun v hv => ?_ | refine .qa fun v hv => ?_ | refine .len fun v hv => ?_ | refine .all True.intro fun v hv => ?_ | refine Lt.to (by decide) rfl ?_ | (refine .au fun vr vn hvr hvn hvl => ?_; try simp only [List.length_cons, List.length_nil] at hvl) | fail)
    all_goals (try cbv)
    exact hA ⟨v, vr, vn⟩ _ ⟨by dsimp only; omega, by dsimp only; omega, by dsimp only; rw [hvr, hnext, show v.toNat = i.toNat + 1 by omega], hvn⟩ (by dsimp only; omega) rfl
end Go.Ab

namespace Go.Proofs
open Go.RowKit Go.Shelf Go.Ab

attribute [local go_sem] Oper.semAt_some

def ringU (s : Nat → Int) (h m : Int) : Array Value := #[.int .i64 (s 0), .int .i64 (s 1), .int .i64 (s 2), .int .i64 (s 3), .int .i64 (s 4), .int .i64 (s 5), .int .i64 (s 6), .int .i64 (s 7), .int .i64 h, .int .i64 m]

theorem ringU_R (C : Ctx) (s : Nat → Int) (h m : Int) : R C (.agg (ringC s h m)) (.agg (ringU s h m)) := by
  refine .agg _ [_, _, _, _, _, _, _, _, _, _] rfl (by simp [Value.oneCell']) fun j c hj => ?_
  have hlt : j < 10 := by
    rcases Nat.lt_or_ge j 10 with h | h
    · exact h
    · rw [List.getElem?_eq_none (by simpa [ringC] using h)] at hj; cases hj
  have : j = 0 ∨ j = 1 ∨ j = 2 ∨ j = 3 ∨ j = 4 ∨ j = 5 ∨ j = 6 ∨ j = 7 ∨ j = 8 ∨ j = 9 := by omega
  rcases this with e | e | e | e | e | e | e | e | e | e <;> subst e <;> (simp only [ringC] at hj; cases hj; exact .int _ _)

theorem slot_run (w : World) (s : Nat → Int) (h m k : Int) (h0 : 0 ≤ h) (h1 : h < 8) (k0 : 0 ≤ k) (k1 : k ≤ 8) (j : Int) (hj : j = (h + k) % 8) :
    Calls Try.prog 71 #[.agg (ringU s h m), .int .i64 k] w fun e w' => e = .returned (.int .i64 j) ∧ Below w.heap.size w w' := by
  refine Calls.mono ((c71 s h m k h0 h1 k0 k1 j hj).run (vs := [.agg (ringU s h m), .int .i64 k]) (w := w) (F := fun _ _ => False) rfl rfl (fun _ _ h => h.elim) fun i a hi => ?_) ?_
  · cases i with
    | zero => cases hi; exact ringU_R _ s h m
    | succ i =>
      cases i with
      | zero => cases hi; exact .int _ _
      | succ i => simp at hi
  · rintro e w' ⟨v, F', rfl, hr, hb, _⟩
    cases hr
    exact ⟨rfl, hb⟩

theorem grown_of_below {A B : World} (h : Below A.heap.size A B) : A.grownBy B none := ⟨h.os, h.tape, h.output, h.size, fun k hk _ => h.block k hk⟩

def CellsAt (W : World) (Bn base : Nat) (s : Nat → Int) (h m : Int) : Prop := ∀ j, j < 10 → W.cell? ⟨Bn, base + j, none⟩ = some ((ringU s h m).getD j undef)

theorem cells_below {A B : World} {Bn base : Nat} {s : Nat → Int} {h m : Int} (hb : Below A.heap.size A B) (hc : CellsAt A Bn base s h m) : CellsAt B Bn base s h m := by
  have hlt : Bn < A.heap.size := by
    have := hc 0 (by omega)
    unfold World.cell? at this
    rcases Nat.lt_or_ge Bn A.heap.size with h | h
    · exact h
    · rw [Array.getElem?_eq_none h] at this; cases this
  intro j hj
  have := hc j hj
  unfold World.cell? at this ⊢
  rw [hb.block Bn hlt]; exact this

set_option maxRecDepth 100000 in
set_option maxHeartbeats 2000000 in
theorem all1_in (n l Bn base : Nat) (s : Nat → Int) (h m : Int) (xs : List Int) (N : Nat) (hN : N = xs.length) (r : RingIs s h m xs) (J Jx : List (Fin N) → World → Prop) (Kp : World → World → Prop)
    (hKp : ∀ A B, Kp A B → CellsAt A Bn base s h m → CellsAt B Bn base s h m)
    (hY : ∀ pre (x : Fin N) W, J pre W → pre.length < N → YieldAt Fence.wide (n - 1) Try.prog l #[.int .i64 (xs.getD x.val 0)] W fun e W' =>
      (e = .returned (.bool true) ∧ J (pre ++ [x]) W' ∧ Kp W W') ∨ (e = .returned (.bool false) ∧ Jx (pre ++ [x]) W'))
    (W : World) (hJ : AbidesFrom W.heap.size J) (hc : CellsAt W Bn base s h m) (h0 : J [] W) :
    CallsIn Fence.wide n Try.prog 72 #[.func (.yield l) #[] #[], .pointer (some ⟨Bn, base, none⟩)] W fun e W' => (∃ v, e = .returned v) ∧
      ((∃ ys : List (Fin N), ys.map (·.val) = List.range N ∧ J ys W') ∨ (∃ pre : List (Fin N), True ∧ Jx pre W')) := by
  refine callsIn_of_wp Try.func72 rfl trivial ?_ rfl
  simp only [Try.ntmps72, List.size_toArray, List.length_cons, List.length_nil, Nat.reduceAdd, Nat.reduceSub, Array.replicate_succ, Array.replicate_zero, List.push_toArray, List.append_toArray, List.nil_append, List.cons_append]
  have hc9 : W.cell? ⟨Bn, base + 9, none⟩ = some (.int .i64 m) := hc 9 (by omega)
  gi_wp2
  have hm1 := r.m1
  have hm0 : 0 ≤ m ∧ m.toNat = xs.length := by have := r.me; omega
  have rh0 := r.h0
  have rh1 := r.h1
  gi_loopw [6] (fun p wr => ∃ (pre : List (Fin N)) (i : Int), p = .int .i64 i ∧ 0 ≤ i ∧ i.toNat ≤ N ∧ pre.map (·.val) = List.range i.toNat ∧ CellsAt wr Bn base s h m ∧ J pre wr)
    (fun p _ => N - (intOf p).toNat)
  case atStart =>
    exact ⟨[], 0, rfl, by omega, by omega, rfl, hc, h0⟩
  case round =>
    obtain ⟨pre, i, rfl, i0, hi, hpre, hcr, hJs⟩ := hrel
    rcases (show i.toNat = N ∨ i.toNat < N by omega) with hend | hlt
    · have hnlt : ¬ i < m := by omega
      gi_wp2
      go_end0
      exact ⟨⟨_, rfl⟩, .inl ⟨pre, by rw [hpre, hend]; first | done | exact congrArg _ hN, hJs⟩⟩
    · have hlm : i < m := by omega
      have c0 : wr.cell? ⟨Bn, base, none⟩ = some (.int .i64 (s 0)) := hcr 0 (by omega)
      have c1 : wr.cell? ⟨Bn, base + 1, none⟩ = some (.int .i64 (s 1)) := hcr 1 (by omega)
      have c2 : wr.cell? ⟨Bn, base + 2, none⟩ = some (.int .i64 (s 2)) := hcr 2 (by omega)
      have c3 : wr.cell? ⟨Bn, base + 3, none⟩ = some (.int .i64 (s 3)) := hcr 3 (by omega)
      have c4 : wr.cell? ⟨Bn, base + 4, none⟩ = some (.int .i64 (s 4)) := hcr 4 (by omega)
      have c5 : wr.cell? ⟨Bn, base + 5, none⟩ = some (.int .i64 (s 5)) := hcr 5 (by omega)
      have c6 : wr.cell? ⟨Bn, base + 6, none⟩ = some (.int .i64 (s 6)) := hcr 6 (by omega)
      have c7 : wr.cell? ⟨Bn, base + 7, none⟩ = some (.int .i64 (s 7)) := hcr 7 (by omega)
      have c8 : wr.cell? ⟨Bn, base + 8, none⟩ = some (.int .i64 h) := hcr 8 (by omega)
      have c9 : wr.cell? ⟨Bn, base + 9, none⟩ = some (.int .i64 m) := hcr 9 (by omega)
      obtain ⟨j, hj⟩ : ∃ j, j = (h + i) % 8 := ⟨_, rfl⟩
      have hxs : s j.toNat = xs.getD i.toNat 0 := by
        rw [show j.toNat = idx h i by unfold idx; omega, r.idx i0 (by omega)]
      have hsl := slot_run wr s h m i rh0 rh1 i0 (by omega) j hj
      have hj0 : 0 ≤ j := by omega
      have hj8 : j < 8 := by omega
      clear hj
      gi_wp2
      refine ⟨trivial, fun hd => (by cases hd), ?_⟩
      refine (callsIn_wide.2 hsl).mono ?_
      rintro e w1 ⟨rfl, hb1⟩
      clear hsl c0 c1 c2 c3 c4 c5 c6 c7 c8 c9
      have hcr1 := cells_below hb1 hcr
      have hd : w1.cell? ⟨Bn, base + j.toNat, none⟩ = some (.int .i64 (xs.getD i.toNat 0)) := by
        rw [hcr1 j.toNat (by omega), ← hxs]
        rcases eight hj0 hj8 with e | e | e | e | e | e | e | e <;> subst e <;> rfl
      have hJ1 : J pre w1 := hJ pre wr w1 none hJs (grown_of_below hb1) (fun r e => by cases e)
      have hlen : pre.length = i.toNat := by
        have := congrArg List.length hpre
        simpa using this
      have hYi := hY pre ⟨i.toNat, hlt⟩ w1 hJ1 (by omega)
      obtain ⟨y, hyy⟩ : ∃ y, y = xs.getD i.toNat 0 := ⟨_, rfl⟩
      dsimp only at hYi
      rw [← hyy] at hd hYi
      clear hyy hxs
      obtain ⟨fn, tmps, assign, body, hy, hR⟩ := hYi
      dsimp only
      gi_wp2
      refine ⟨fun hd => (by cases hd), ?_⟩
      refine hR.mono ?_
      rintro e W3 (⟨rfl, hJ3, hk3⟩ | ⟨rfl, hJx3⟩)
      · have hb3 := hKp _ _ hk3 hcr1
        clear hy hR hd
        dsimp only
        gi_wp2
        go_roundw
        case rel => exact ⟨pre ++ [⟨i.toNat, hlt⟩], i + 1, by simp, by omega, by omega, by rw [List.map_append, hpre, show (i + 1).toNat = i.toNat + 1 by omega, List.range_succ]; rfl, hb3, hJ3⟩
        case measure => simp [intOf]; omega
      · clear hy hR hd
        dsimp only
        gi_wp2
        refine bodyPost_ret (results_none rfl _ _ _) rfl ?_
        exact ⟨⟨_, rfl⟩, .inr ⟨pre ++ [⟨i.toNat, hlt⟩], trivial, hJx3⟩⟩

set_option maxHeartbeats 1000000 in
theorem all_in (s : Nat → Int) (h m : Int) (w : World) :
    Calls Try.prog 59 #[.agg (ringU s h m)] w fun e w' => e = .returned (.func (.func 72) #[] #[.pointer (some ⟨w.heap.size, 0, none⟩)]) ∧ w' = w.alloc (.cells (ringU s h m) 57) := by
  rw [← callsIn_wide (n := 3)]
  refine callsIn_of_wp Try.func59 rfl trivial ?_ rfl
  simp only [Try.ntmps59, List.size_toArray, List.length_cons, List.length_nil, Nat.reduceAdd, Nat.reduceSub, Array.replicate_succ, Array.replicate_zero, List.push_toArray, List.append_toArray, List.nil_append, List.cons_append]
  gi_wp2
  go_ret
  exact ⟨rfl, rfl⟩

theorem agg_ring {C : Ctx} {s : Nat → Int} {h m : Int} {u : Value} (hR : R C (.agg (ringC s h m)) u) : u = .agg (ringU s h m) := by
  cases hR with
  | agg cs us hl h1 hr =>
    have hlen : us.length = 10 := by rw [← hl]; rfl
    have g : ∀ j c, (ringC s h m)[j]? = some c → ∀ (k : IntKind) (n : Int), c = V.int k n → us[j]? = some (Value.int k n) := fun j c hj k n e => by
      have h2 := hr j c hj
      rw [e] at h2
      have hlt : j < us.length := by rw [← hl]; exact (List.getElem?_eq_some_iff.1 hj).1
      rw [List.getD_eq_getElem?_getD, List.getElem?_eq_getElem hlt] at h2
      simp only [Option.getD_some] at h2
      rw [List.getElem?_eq_getElem hlt]
      generalize us[j] = x at h2 ⊢
      cases h2
      rfl
    congr 1
    refine congrArg List.toArray (List.ext_getElem? fun j => ?_)
    rcases (show j = 0 ∨ j = 1 ∨ j = 2 ∨ j = 3 ∨ j = 4 ∨ j = 5 ∨ j = 6 ∨ j = 7 ∨ j = 8 ∨ j = 9 ∨ 10 ≤ j by omega) with e | e | e | e | e | e | e | e | e | e | e
    all_goals first
      | (subst e; rw [g _ _ rfl _ _ rfl]; rfl)
      | (rw [List.getElem?_eq_none (by omega)]; rw [List.getElem?_eq_none (by simpa using e)])

theorem callsV_handF {P : Program} {f : FuncId} {args : List V} {res : V} (hp : args.all V.read = true)
    (h : ∀ (w : World) (vs : List Value) (F : Nat → Nat → Prop) (G : Nat → Prop), args.length = vs.length → (∀ (i : Nat) (a : V), args[i]? = some a → RA (bare w F G) a (vs.getD i undef)) →
      Calls P f vs.toArray w fun e w' => ∃ (v : Value) (Fr : Nat → Nat → Prop), e = .returned v ∧ Below w.heap.size w w' ∧ (∀ b off, Fr b off → w.heap.size ≤ b ∧ b < w'.heap.size) ∧ RB (bare w' Fr G) res v ∧ ownsR res v = []) :
    CallsV P f args res (args.map fun _ => .undef) true := by
  intro w F G vs hl hR _ _ _ _ _
  refine Calls.mono (h w vs F G hl hR) ?_
  rintro e w' ⟨v, Fr, rfl, hb, hFr, hres, hown⟩
  obtain ⟨a1, a2, a3⟩ := read_lists (w := w) (vs := vs) hp
  obtain ⟨b1, b2, b3⟩ := undef_lists (w := w') args vs
  refine ⟨v, Fr, rfl, ?_⟩
  exact { fresh := fun b off h => ⟨(hFr b off h).2, .inl (hFr b off h).1⟩
          rres := by
            have : (fun b off => (true = false ∧ F b off) ∨ Fr b off) = Fr := by funext b off; simp
            rw [this]; exact hres
          len := by simp
          routs := fun i a ha => by
            rw [List.getElem?_map] at ha
            cases hx : args[i]? with
            | none => rw [hx] at ha; cases ha
            | some x => rw [hx] at ha; cases ha; exact .undef _
          boxes := by rw [a2, b2]
          ranges := fun b off => ⟨fun h => (b3 b off h).elim, fun h => (a3 b off h).elim⟩
          nodup := by rw [b1, a2, hown]; exact List.nodup_nil
          own := fun b hb' => by rw [b1, hown] at hb'; cases hb'
          frame := ⟨hb.os, hb.output, hb.tape, hb.size, fun b hlt => by rw [hb.block b hlt]; exact sameBut_reflL _ _⟩ }

theorem c59 (s : Nat → Int) (h m : Int) : CallsV Try.prog 59 [.agg (ringC s h m)] (.fn 72 [] [.cp (ringC s h m) 0]) [.undef] true := by
  refine callsV_handF (args := [.agg (ringC s h m)]) rfl fun w vs F G hl hR => ?_
  obtain ⟨u, rfl⟩ : ∃ u, vs = [u] := by
    cases vs with
    | nil => cases hl
    | cons u l => cases l with
      | nil => exact ⟨u, rfl⟩
      | cons _ _ => simp at hl
  have hu := agg_ring (hR 0 _ rfl)
  simp only [List.getD_cons_zero] at hu
  subst hu
  refine Calls.mono (all_in s h m w) ?_
  rintro e w' ⟨rfl, rfl⟩
  have hnew : ∀ j, j < 10 → (w.alloc (.cells (ringU s h m) 57)).cell? ⟨w.heap.size, j, none⟩ = some ((ringU s h m).getD j undef) := fun j hj => by
    simp only [World.cell?, heap_alloc_new]
    rcases (show j = 0 ∨ j = 1 ∨ j = 2 ∨ j = 3 ∨ j = 4 ∨ j = 5 ∨ j = 6 ∨ j = 7 ∨ j = 8 ∨ j = 9 by omega) with e | e | e | e | e | e | e | e | e | e <;> subst e <;> rfl
  refine ⟨_, fun b off => b = w.heap.size ∧ off < 10, rfl, Below.alloc (Below.refl _ _) (Nat.le_refl _) _, fun b off hb => ?_, ?_, rfl⟩
  · obtain ⟨rfl, _⟩ := hb
    exact ⟨Nat.le_refl _, by show w.heap.size < (w.heap.push _).size; rw [Array.size_push]; omega⟩
  · refine .fn _ _ _ [] [_] rfl rfl (fun j c hj => by simp at hj) fun j c hj => ?_
    cases j with
    | zero =>
      cases hj
      have key : ∀ (j : Nat) (c : V), (ringC s h m)[j]? = some c → j < 10 ∧ V.closed c = true ∧ ((ringU s h m).getD j undef).oneCell' = true ∧ ∀ C : Ctx, R C c ((ringU s h m).getD j undef) := fun j c hj => by
        have hlt : j < 10 := by
          have := (List.getElem?_eq_some_iff.1 hj).1
          simpa [ringC] using this
        refine ⟨hlt, ?_⟩
        rcases (show j = 0 ∨ j = 1 ∨ j = 2 ∨ j = 3 ∨ j = 4 ∨ j = 5 ∨ j = 6 ∨ j = 7 ∨ j = 8 ∨ j = 9 by omega) with e | e | e | e | e | e | e | e | e | e <;> subst e <;> (simp only [ringC] at hj; cases hj; exact ⟨rfl, rfl, fun C => .int _ _⟩)
      exact .cp _ 0 w.heap.size 0 (fun j => (ringU s h m).getD j undef) (fun j c hj => ⟨by rw [Nat.zero_add]; exact hnew j (key j c hj).1, ⟨rfl, by have := (key j c hj).1; omega⟩, (key j c hj).2.2.1⟩) (fun j c hj => (key j c hj).2.1) (fun j c hj => (key j c hj).2.2.2 _)
    | succ j => simp at hj

theorem all_yields (s : Nat → Int) (h m : Int) (xs : List Int) (r : RingIs s h m xs) : YieldsV Try.prog 72 [.cp (ringC s h m) 0] (xs.map fun x => [.int .i64 x]) := by
  intro w F G lb hl hR
  obtain ⟨u, rfl⟩ : ∃ u, lb = [u] := by
    cases lb with
    | nil => cases hl
    | cons u l => cases l with
      | nil => exact ⟨u, rfl⟩
      | cons _ _ => simp at hl
  have h0 := hR 0 _ rfl
  simp only [List.getD_cons_zero] at h0
  obtain ⟨Bn, base, rfl, hcs⟩ : ∃ Bn base, u = .pointer (some ⟨Bn, base, none⟩) ∧ ∀ j, j < 10 → w.cell? ⟨Bn, base + j, none⟩ = some ((ringU s h m).getD j undef) ∧ F Bn (base + j) := by
    cases h0 with
    | cp cs off b base g hcell hcl hr =>
      refine ⟨b, base, by simp, fun j hj => ?_⟩
      obtain ⟨c, hc⟩ : ∃ c, (ringC s h m)[j]? = some c := ⟨_, List.getElem?_eq_getElem (by simpa [ringC] using hj)⟩
      obtain ⟨h1, h2, _⟩ := hcell j c hc
      have h4 := hr j c hc
      refine ⟨h1.trans ?_, h2⟩
      clear h1 h2
      generalize g j = x at h4 ⊢
      rcases (show j = 0 ∨ j = 1 ∨ j = 2 ∨ j = 3 ∨ j = 4 ∨ j = 5 ∨ j = 6 ∨ j = 7 ∨ j = 8 ∨ j = 9 by omega) with e | e | e | e | e | e | e | e | e | e <;> subst e <;> (simp only [ringC] at hc; cases hc; cases h4; rfl)
  have hlen : (xs.map fun x => [V.int .i64 x]).length = xs.length := by simp
  refine ⟨fun i => [.int .i64 (xs.getD i.val 0)], fun i => ?_, fun n => ?_⟩
  · have hi : i.val < xs.length := by have := i.isLt; omega
    have hg : (xs.map fun x => [V.int .i64 x]).get i = [V.int .i64 (xs.getD i.val 0)] := by
      simp [List.getD_eq_getElem?_getD, List.getElem?_eq_getElem hi]
    refine ⟨by rw [hg]; rfl, fun w' G' _ j c hj => ?_⟩
    rw [hg] at hj
    cases j with
    | zero => cases hj; exact .int _ _
    | succ j => simp at hj
  · intro l J Jx W hW hJ _ hY h0
    have hc : CellsAt W Bn base s h m := cells_below (A := w) hW (fun j hj => (hcs j hj).1)
    refine CallsIn.mono (all1_in n l Bn base s h m xs _ hlen r J Jx (fun A B => ∀ b off x, F b off → A.cell? ⟨b, off, none⟩ = some x → B.cell? ⟨b, off, none⟩ = some x)
      (fun A B hk hA j hj => hk _ _ _ (hcs j hj).2 (hA j hj)) hY W hJ hc h0) ?_
    rintro e W' ⟨hv, h⟩
    refine ⟨hv, ?_⟩
    rcases h with ⟨ys, hys, hJy⟩ | ⟨pre, _, hJp⟩
    · refine .inl ⟨ys, ?_, hJy⟩
      refine List.ext_getElem? fun j => ?_
      have hj := congrArg (fun l => l[j]?) hys
      simp only [List.getElem?_map] at hj ⊢
      rcases Nat.lt_or_ge j (xs.map fun x => [V.int .i64 x]).length with hlt | hge
      · rw [List.getElem?_range hlt] at hj
        cases hy : ys[j]? with
        | none => rw [hy] at hj; cases hj
        | some y =>
          rw [hy] at hj
          simp only [Option.map_some, Option.some.injEq] at hj ⊢
          have : y = ⟨j, hlt⟩ := Fin.ext hj
          subst this
          have hlt' : j < xs.length := by simpa using hlt
          simp [List.getElem?_eq_getElem hlt']
      · have hyl : ys.length = (xs.map fun x => [V.int .i64 x]).length := by
          have := congrArg List.length hys
          simpa using this
        rw [List.getElem?_eq_none (l := ys) (by omega), List.getElem?_eq_none (l := xs) (by rw [hlen] at hge; exact hge)]; rfl
    · exact .inr ⟨pre, trivial, hJp⟩
end Go.Proofs

namespace Go.Ab
open Go Go.Proofs
set_option maxRecDepth 100000

theorem can_all1 : callable Try.prog 72 = true := by kernel_rfl
structure QuI where
  rs : List (List V)
  n : Nat
set_option maxHeartbeats 4000000 in
theorem c43 (p : PD) (hm : mayR p.r = true) : CallsV Try.prog 43 [.agg (pC p)] (.own 1 ((queueOf p).map iC)) [.undef] true := by
  have cl := Go.Proofs.c59 p.r.f p.r.h p.r.n
  have hy := Go.Proofs.all_yields p.r.f p.r.h p.r.n (listR p.r) (listR_is hm)
  have hl := listR_len p.r
  rw [← rC_ring] at cl hy
  unfold queueOf
  obtain ⟨xs, hxs⟩ : ∃ xs : List (List V), xs = (listR p.r).map fun x => [.int .i64 x] := ⟨_, rfl⟩
  have hxl : xs.length ≤ 8 := by rw [hxs]; simpa using hl
  have hxi : (listR p.r).map iC = xs := hxs.symm
  have hin : ∀ vs ∈ xs, ∃ x : Int, vs = [.int .i64 x] := fun vs h => by
    rw [hxs] at h
    obtain ⟨x, _, rfl⟩ := List.mem_map.1 h
    exact ⟨x, rfl⟩
  have hfr : okRows true xs = true := by rw [← hxi]; exact fr_iC _
  rw [← hxs] at hy
  rw [List.map_append, hxi]
  clear hxs hl hxi hm
  obtain ⟨m, nx, ⟨b0, b1, b2, b3, b4, b5, b6, b7, hh, n⟩, sq⟩ := p
  dsimp only at cl hy ⊢
  refine callsV_q hD Try.func43 ok43 rfl rfl rfl fun P Q hP hQ => ?_
  try rw [← hP] at cl
  repeat' (cbv; first | refine .y ?_ | refine .n ?_ | refine .split (fun hc => ?_) fun hc => ?_ | refine EqQ.ints rfl (fun hc => ?_) fun hc => ?_ | refine .go cl ?_ | refine CanQ.to (hP ▸ can_all1) ?_ | refine .wa fun v hv => ?_ | refine .ra fun v hv => ?_ | refine .qa fun v hv => ?_ | refine .len fun v hv => ?_ | refine .all True.intro fun v hv => ?_ | refine Lt.to (by decide) rfl ?_ | (refine .au fun vr vn hvr hvn hvl => ?_; try simp only [List.length_cons, List.length_nil] at hvl) | fail)
  all_goals (try cbv)
  · have hbs : ([] : List (List V)) = (if nx = 0 then [] else [nx]).map iC := by rw [if_pos (by omega)]; rfl
    have hl0 : ([] : List (List V)).length ≤ 1 := by simp
    rw [← hbs] at hQ
    have hfb : okRows true ([] : List (List V)) = true := rfl
    clear hbs
    refine RngQ.to (ι := QuI) (hP ▸ hy) (fun vs h => by obtain ⟨x, rfl⟩ := hin vs h; exact ⟨rfl, rfl⟩)
      (fun p => ⟨tab .undef [(3, .ptr 101 0)], tab .dead [(101, .box [.sref 102 0 p.n]), (102, .rows 1 p.rs)]⟩)
      (fun pre p => p.rs = ([] : List (List V)) ++ pre ∧ p.n = p.rs.length) ⟨([] : List (List V)), 0⟩ ⟨by simp, rfl⟩ rfl (fun pre vs p hvs hpre hlt hok A hA => ?_) (fun p hok => ?_)
    · obtain ⟨rs, n1⟩ := p
      obtain ⟨hrs, hn⟩ := hok
      dsimp only at hrs hn ⊢
      have lrs : rs.length ≤ 10 := by rw [hrs, List.length_append]; omega
      obtain ⟨x, rfl⟩ := hin vs hvs
      repeat' (cbv; first | refine .y ?_ | refine .n ?_ | refine .split (fun hc => ?_) fun hc => ?_ | refine EqQ.ints rfl (fun hc => ?_) fun hc => ?_ | refine .wa fun v hv => ?_ | refine .ra fun v hv => ?_ | refine .qa fun v hv => ?_ | refine .len fun v hv => ?_ | refine .all True.intro fun v hv => ?_ | refine Lt.to (by decide) rfl ?_ | (refine .au fun vr vn hvr hvn hvl => ?_; try simp only [List.length_cons, List.length_nil] at hvl) | fail)
      all_goals (try cbv)
      exact hA ⟨vr, vn⟩ _ ⟨by dsimp only; rw [hvr, hrs, List.append_assoc], hvn⟩ rfl
    · obtain ⟨rs, n1⟩ := p
      obtain ⟨hrs, hn⟩ := hok
      dsimp only at hrs hn ⊢
      repeat' (cbv; first | refine .y ?_ | refine .n ?_ | refine .split (fun hc => ?_) fun hc => ?_ | refine EqQ.ints rfl (fun hc => ?_) fun hc => ?_ | refine .wa fun v hv => ?_ | refine .ra fun v hv => ?_ | refine .qa fun v hv => ?_ | refine .len fun v hv => ?_ | refine .all True.intro fun v hv => ?_ | refine Lt.to (by decide) rfl ?_ | (refine .au fun vr vn hvr hvn hvl => ?_; try simp only [List.length_cons, List.length_nil] at hvl) | fail)
      all_goals (try cbv)
      refine hQ _ ?_
      exact Leave.own rfl rfl hn hrs.symm (by rw [hrs, okRows_app, hfb, hfr]; rfl) rfl
  · have hbs : vr = (if nx = 0 then [] else [nx]).map iC := by rw [if_neg (by omega), hvr]; rfl
    have hl0 : vr.length ≤ 1 := by rw [hvr]; simp
    rw [← hbs] at hQ
    have hfb : okRows true vr = true := by rw [hbs]; exact fr_iC _
    clear hbs
    obtain ⟨br, hbr⟩ : ∃ br, br = vr := ⟨_, rfl⟩
    obtain ⟨bn, hbn⟩ : ∃ bn, bn = vn := ⟨_, rfl⟩
    rw [← hbr] at hQ hvn hl0 hfb ⊢
    rw [← hbn] at hvn ⊢
    clear hbr hbn hvr hvl
    refine RngQ.to (ι := QuI) (hP ▸ hy) (fun vs h => by obtain ⟨x, rfl⟩ := hin vs h; exact ⟨rfl, rfl⟩)
      (fun p => ⟨tab .undef [(3, .ptr 101 0)], tab .dead [(101, .box [.sref 102 0 p.n]), (102, .rows 1 p.rs)]⟩)
      (fun pre p => p.rs = br ++ pre ∧ p.n = p.rs.length) ⟨br, bn⟩ ⟨by simp, hvn⟩ rfl (fun pre vs p hvs hpre hlt hok A hA => ?_) (fun p hok => ?_)
    · obtain ⟨rs, n1⟩ := p
      obtain ⟨hrs, hn⟩ := hok
      dsimp only at hrs hn ⊢
      have lrs : rs.length ≤ 10 := by rw [hrs, List.length_append]; omega
      obtain ⟨x, rfl⟩ := hin vs hvs
      repeat' (cbv; first | refine .y ?_ | refine .n ?_ | refine .split (fun hc => ?_) fun hc => ?_ | refine EqQ.ints rfl (fun hc => ?_) fun hc => ?_ | refine .wa fun v hv => ?_ | refine .ra fun v hv => ?_ | refine .qa fun v hv => ?_ | refine .len fun v hv => ?_ | refine .all True.intro fun v hv => ?_ | refine Lt.to (by decide) rfl ?_ | (refine .au fun vr vn hvr hvn hvl => ?_; try simp only [List.length_cons, List.length_nil] at hvl) | fail)
      all_goals (try cbv)
      exact hA ⟨vr, vn⟩ _ ⟨by dsimp only; rw [hvr, hrs, List.append_assoc], hvn⟩ rfl
    · obtain ⟨rs, n1⟩ := p
      obtain ⟨hrs, hn⟩ := hok
      dsimp only at hrs hn ⊢
      repeat' (cbv; first | refine .y ?_ | refine .n ?_ | refine .split (fun hc => ?_) fun hc => ?_ | refine EqQ.ints rfl (fun hc => ?_) fun hc => ?_ | refine .wa fun v hv => ?_ | refine .ra fun v hv => ?_ | refine .qa fun v hv => ?_ | refine .len fun v hv => ?_ | refine .all True.intro fun v hv => ?_ | refine Lt.to (by decide) rfl ?_ | (refine .au fun vr vn hvr hvn hvl => ?_; try simp only [List.length_cons, List.length_nil] at hvl) | fail)
      all_goals (try cbv)
      refine hQ _ ?_
      exact Leave.own rfl rfl hn hrs.symm (by rw [hrs, okRows_app, hfb, hfr]; rfl) rfl
end Go.Ab

namespace Go.Ab
open Go Go.Proofs
set_option maxRecDepth 100000

def waiters (s : SD) : List Int := s.w0 ++ s.w1 ++ s.w2 ++ s.w3 ++ s.ts.map (·.g)
set_option maxHeartbeats 4000000 in
theorem c39 (s : SD) (h0 : s.w0.length ≤ 1000000) (h1 : s.w1.length ≤ 1000000) (h2 : s.w2.length ≤ 1000000) (h3 : s.w3.length ≤ 1000000) (ht : s.ts.length ≤ 1000000) : CallsV Try.prog 39 [.agg (stC s)] (.own 1 ((waiters s).map iC)) [.undef] true := by
  unfold waiters
  obtain ⟨prog, gs, ps, ms, gl, c0, c1, c2, c3, w0, w1, w2, w3, ts, ck, pr⟩ := s
  obtain ⟨rp, rg, rq, rm, rl, r0, r1, r2, r3, rt, ⟨h_rp, s_rp, l_rp⟩, ⟨h_rg, s_rg, l_rg⟩, ⟨h_rq, s_rq, l_rq⟩, ⟨h_rm, s_rm, l_rm⟩, ⟨h_rl, s_rl, l_rl⟩, ⟨h_r0, s_r0, l_r0⟩, ⟨h_r1, s_r1, l_r1⟩, ⟨h_r2, s_r2, l_r2⟩, ⟨h_r3, s_r3, l_r3⟩, ⟨h_rt, s_rt, l_rt⟩, hst_⟩ := stR prog gs ps ms gl c0 c1 c2 c3 w0 w1 w2 w3 ts ck pr
  dsimp only at h0 h1 h2 h3 ht ⊢
  rw [hst_]
  refine callsV_q hD Try.func39 ok39 rfl rfl (by simp only [List.map_cons, List.map_nil, V.sh, V.shL, stL, s_rp, s_rg, s_rq, s_rm, s_rl, s_r0, s_r1, s_r2, s_r3, s_rt]) fun P Q hP hQ => ?_
  clear hst_
  repeat' (cbv; first | refine .y ?_ | refine .n ?_ | refine .split (fun hc => ?_) fun hc => ?_ | refine EqQ.ints rfl (fun hc => ?_) fun hc => ?_ | refine .wa fun v hv => ?_ | refine .ra fun v hv => ?_ | refine .qa fun v hv => ?_ | refine .len fun v hv => ?_ | refine .all True.intro fun v hv => ?_ | refine Lt.to (by decide) rfl ?_ | (refine .au fun vr vn hvr hvn hvl => ?_; try simp only [List.length_cons, List.length_nil] at hvl) | fail)
  all_goals (try cbv)
  refine LoopQ.to (ι := RunI) (fun p => ⟨tab .undef [(1, .ptr 100 0), (3, .sref 101 0 p.n), (4, .int .i64 p.i)], tab .dead [(100, .box (stL rp rg rq rm rl c0 c1 c2 c3 r0 r1 r2 r3 rt ck pr)), (101, .rows 1 p.rs)]⟩)
    (fun p => ((p.i = 0 ∧ p.rs = []) ∨ (p.i = 1 ∧ p.rs = r0) ∨ (p.i = 2 ∧ p.rs = r0 ++ r1) ∨ (p.i = 3 ∧ p.rs = r0 ++ r1 ++ r2) ∨ (p.i = 4 ∧ p.rs = r0 ++ r1 ++ r2 ++ r3)) ∧ p.n = p.rs.length) (fun p => (4 - p.i).toNat) ⟨0, [], 0⟩ ⟨.inl ⟨rfl, rfl⟩, rfl⟩ rfl fun ⟨i, rs, n⟩ ⟨hi, hn⟩ A hA => ?_
  dsimp only at hi hn ⊢
  rcases hi with ⟨rfl, hr⟩ | ⟨rfl, hr⟩ | ⟨rfl, hr⟩ | ⟨rfl, hr⟩ | ⟨rfl, hr⟩
  · have : rs.length = 0 := by rw [hr]; rfl
    repeat' (cbv; first | refine .y ?_ | refine .n ?_ | refine .split (fun hc => ?_) fun hc => ?_ | refine EqQ.ints rfl (fun hc => ?_) fun hc => ?_ | refine .wa fun v hv => ?_ | refine .ra fun v hv => ?_ | refine .qa fun v hv => ?_ | refine .len fun v hv => ?_ | refine .all True.intro fun v hv => ?_ | refine Lt.to (by decide) rfl ?_ | (refine .au fun vr vn hvr hvn hvl => ?_; try simp only [List.length_cons, List.length_nil] at hvl) | fail)
    all_goals (try cbv)
    exact hA ⟨v, vr, vn⟩ _ ⟨.inr (.inl ⟨hv, by rw [hvr, hr]; rfl⟩), hvn⟩ (by dsimp only; omega) rfl
  · have : rs.length = r0.length := by rw [hr]
    repeat' (cbv; first | refine .y ?_ | refine .n ?_ | refine .split (fun hc => ?_) fun hc => ?_ | refine EqQ.ints rfl (fun hc => ?_) fun hc => ?_ | refine .wa fun v hv => ?_ | refine .ra fun v hv => ?_ | refine .qa fun v hv => ?_ | refine .len fun v hv => ?_ | refine .all True.intro fun v hv => ?_ | refine Lt.to (by decide) rfl ?_ | (refine .au fun vr vn hvr hvn hvl => ?_; try simp only [List.length_cons, List.length_nil] at hvl) | fail)
    all_goals (try cbv)
    exact hA ⟨v, vr, vn⟩ _ ⟨.inr (.inr (.inl ⟨hv, by rw [hvr, hr]⟩)), hvn⟩ (by dsimp only; omega) rfl
  · have : rs.length = r0.length + r1.length := by rw [hr]; simp
    repeat' (cbv; first | refine .y ?_ | refine .n ?_ | refine .split (fun hc => ?_) fun hc => ?_ | refine EqQ.ints rfl (fun hc => ?_) fun hc => ?_ | refine .wa fun v hv => ?_ | refine .ra fun v hv => ?_ | refine .qa fun v hv => ?_ | refine .len fun v hv => ?_ | refine .all True.intro fun v hv => ?_ | refine Lt.to (by decide) rfl ?_ | (refine .au fun vr vn hvr hvn hvl => ?_; try simp only [List.length_cons, List.length_nil] at hvl) | fail)
    all_goals (try cbv)
    exact hA ⟨v, vr, vn⟩ _ ⟨.inr (.inr (.inr (.inl ⟨hv, by rw [hvr, hr]⟩))), hvn⟩ (by dsimp only; omega) rfl
  · have : rs.length = r0.length + r1.length + r2.length := by rw [hr]; simp; omega
    repeat' (cbv; first | refine .y ?_ | refine .n ?_ | refine .split (fun hc => ?_) fun hc => ?_ | refine EqQ.ints rfl (fun hc => ?_) fun hc => ?_ | refine .wa fun v hv => ?_ | refine .ra fun v hv => ?_ | refine .qa fun v hv => ?_ | refine .len fun v hv => ?_ | refine .all True.intro fun v hv => ?_ | refine Lt.to (by decide) rfl ?_ | (refine .au fun vr vn hvr hvn hvl => ?_; try simp only [List.length_cons, List.length_nil] at hvl) | fail)
    all_goals (try cbv)
    exact hA ⟨v, vr, vn⟩ _ ⟨.inr (.inr (.inr (.inr ⟨hv, by rw [hvr, hr]⟩))), hvn⟩ (by dsimp only; omega) rfl
  · have lrs : rs.length ≤ 4000000 := by rw [hr]; simp; omega
    have hrs : rs = (w0 ++ w1 ++ w2 ++ w3).map iC := by rw [hr, h_r0, h_r1, h_r2, h_r3]; simp
    clear hr
    repeat' (cbv; first | refine .y ?_ | refine .n ?_ | refine .split (fun hc => ?_) fun hc => ?_ | refine EqQ.ints rfl (fun hc => ?_) fun hc => ?_ | refine .wa fun v hv => ?_ | refine .ra fun v hv => ?_ | refine .qa fun v hv => ?_ | refine .len fun v hv => ?_ | refine .all True.intro fun v hv => ?_ | refine Lt.to (by decide) rfl ?_ | (refine .au fun vr vn hvr hvn hvl => ?_; try simp only [List.length_cons, List.length_nil] at hvl) | fail)
    all_goals (try cbv)
    refine LoopQ.to (ι := RunI) (fun p => ⟨tab .undef [(1, .ptr 100 0), (3, .sref 101 0 p.n), (5, .int .i64 p.i)], tab .dead [(100, .box (stL rp rg rq rm rl c0 c1 c2 c3 r0 r1 r2 r3 rt ck pr)), (101, .rows 1 p.rs)]⟩)
      (fun p => 0 ≤ p.i ∧ p.i.toNat ≤ ts.length ∧ p.rs = rs ++ ((ts.take p.i.toNat).map (·.g)).map iC ∧ p.n = p.rs.length) (fun p => ts.length - p.i.toNat) ⟨0, rs, n⟩ ⟨by simp, by simp, by simp, hn⟩ rfl fun ⟨i, us, n'⟩ ⟨i0, i1, hus, hn'⟩ A hA => ?_
    dsimp only at i0 i1 hus hn' ⊢
    have lus : us.length = rs.length + i.toNat := by rw [hus]; simp; omega
    rcases drop_cases i1 with ⟨e, hd⟩ | ⟨hlt, x, hd, hx⟩
    · rw [e, List.take_length] at hus
      repeat' (cbv; first | refine .y ?_ | refine .n ?_ | refine .split (fun hc => ?_) fun hc => ?_ | refine EqQ.ints rfl (fun hc => ?_) fun hc => ?_ | refine .wa fun v hv => ?_ | refine .ra fun v hv => ?_ | refine .qa fun v hv => ?_ | refine .len fun v hv => ?_ | refine .all True.intro fun v hv => ?_ | refine Lt.to (by decide) rfl ?_ | (refine .au fun vr vn hvr hvn hvl => ?_; try simp only [List.length_cons, List.length_nil] at hvl) | fail)
      all_goals (try cbv)
      (subst_vars; refine hQ _ ?_; exact (Leave.own rfl rfl (by simp) (by simp [iC]) (by simp [okRows_app, okRows_cons, okRows_nil, V.fresh, fr_iC, fr_jC, fr_gC, fr_pC, fr_mC, fr_tC, fr_fC, fr_iCf]) rfl))
    · have ga := getD_rows h_rt hx
      have hnext : us ++ [iC x.g] = rs ++ ((ts.take (i.toNat + 1)).map (·.g)).map iC := by rw [take_succ_of hx, hus]; simp
      clear hus
      obtain ⟨x0, x1⟩ := x
      repeat' (cbv; first | refine .y ?_ | refine .n ?_ | refine .split (fun hc => ?_) fun hc => ?_ | refine EqQ.ints rfl (fun hc => ?_) fun hc => ?_ | refine .row ga ?_ | refine .wa fun v hv => ?_ | refine .ra fun v hv => ?_ | refine .qa fun v hv => ?_ | refine .len fun v hv => ?_ | refine .all True.intro fun v hv => ?_ | refine Lt.to (by decide) rfl ?_ | (refine .au fun vr vn hvr hvn hvl => ?_; try simp only [List.length_cons, List.length_nil] at hvl) | fail)
      all_goals (try cbv)
      exact hA ⟨v, vr, vn⟩ _ ⟨by dsimp only; omega, by dsimp only; omega, by dsimp only; rw [hvr, show v.toNat = i.toNat + 1 by omega, ← hnext]; rfl, hvn⟩ (by dsimp only; omega) rfl

def onMs (s : SD) (w : Bool) : List Int := (s.ms.filter fun m => decide (m.g ≠ 0) && (decide (m.p ≠ 0) == w)).map (·.g)
set_option maxHeartbeats 4000000 in
theorem c40 (s : SD) (hm : s.ms.length ≤ 1000000) (w : Bool) : CallsV Try.prog 40 [.agg (stC s), .bool w] (.own 1 ((onMs s w).map iC)) [.undef, .undef] true := by
  unfold onMs
  obtain ⟨prog, gs, ps, ms, gl, c0, c1, c2, c3, w0, w1, w2, w3, ts, ck, pr⟩ := s
  obtain ⟨rp, rg, rq, rm, rl, r0, r1, r2, r3, rt, ⟨h_rp, s_rp, l_rp⟩, ⟨h_rg, s_rg, l_rg⟩, ⟨h_rq, s_rq, l_rq⟩, ⟨h_rm, s_rm, l_rm⟩, ⟨h_rl, s_rl, l_rl⟩, ⟨h_r0, s_r0, l_r0⟩, ⟨h_r1, s_r1, l_r1⟩, ⟨h_r2, s_r2, l_r2⟩, ⟨h_r3, s_r3, l_r3⟩, ⟨h_rt, s_rt, l_rt⟩, hst_⟩ := stR prog gs ps ms gl c0 c1 c2 c3 w0 w1 w2 w3 ts ck pr
  dsimp only at hm ⊢
  rw [hst_]
  refine callsV_q hD Try.func40 ok40 rfl rfl (by simp only [List.map_cons, List.map_nil, V.sh, V.shL, stL, s_rp, s_rg, s_rq, s_rm, s_rl, s_r0, s_r1, s_r2, s_r3, s_rt]) fun P Q hP hQ => ?_
  clear hst_
  repeat' (cbv; first | refine .y ?_ | refine .n ?_ | refine .split (fun hc => ?_) fun hc => ?_ | refine EqQ.ints rfl (fun hc => ?_) fun hc => ?_ | refine .wa fun v hv => ?_ | refine .ra fun v hv => ?_ | refine .qa fun v hv => ?_ | refine .len fun v hv => ?_ | refine .all True.intro fun v hv => ?_ | refine Lt.to (by decide) rfl ?_ | (refine .au fun vr vn hvr hvn hvl => ?_; try simp only [List.length_cons, List.length_nil] at hvl) | fail)
  all_goals (try cbv)
  refine LoopQ.to (ι := RunI) (fun p => ⟨tab .undef [(1, .bool w), (2, .ptr 100 0), (5, .sref 101 0 p.n), (6, .int .i64 p.i)], tab .dead [(100, .box (stL rp rg rq rm rl c0 c1 c2 c3 r0 r1 r2 r3 rt ck pr)), (101, .rows 1 p.rs)]⟩)
    (fun p => 0 ≤ p.i ∧ p.i.toNat ≤ ms.length ∧ p.rs = (((ms.take p.i.toNat).filter fun m => decide (m.g ≠ 0) && (decide (m.p ≠ 0) == w)).map (·.g)).map iC ∧ p.n = p.rs.length) (fun p => ms.length - p.i.toNat) ⟨0, [], 0⟩ ⟨by simp, by simp, by simp, rfl⟩ rfl fun ⟨i, rs, n⟩ ⟨i0, i1, hrs, hn⟩ A hA => ?_
  dsimp only at i0 i1 hrs hn ⊢
  have lrs : rs.length ≤ i.toNat := by
    rw [hrs]; simp only [List.length_map]
    refine Nat.le_trans (List.length_filter_le _ _) ?_
    simp; omega
  rcases drop_cases i1 with ⟨e, hd⟩ | ⟨hlt, x, hd, hx⟩
  · rw [e, List.take_length] at hrs
    repeat' (cbv; first | refine .y ?_ | refine .n ?_ | refine .split (fun hc => ?_) fun hc => ?_ | refine EqQ.ints rfl (fun hc => ?_) fun hc => ?_ | refine .wa fun v hv => ?_ | refine .ra fun v hv => ?_ | refine .qa fun v hv => ?_ | refine .len fun v hv => ?_ | refine .all True.intro fun v hv => ?_ | refine Lt.to (by decide) rfl ?_ | (refine .au fun vr vn hvr hvn hvl => ?_; try simp only [List.length_cons, List.length_nil] at hvl) | fail)
    all_goals (try cbv)
    (subst_vars; refine hQ _ ?_; exact (Leave.own rfl rfl (by simp) (by simp [iC]) (by simp [okRows_app, okRows_cons, okRows_nil, V.fresh, fr_iC, fr_jC, fr_gC, fr_pC, fr_mC, fr_tC, fr_fC, fr_iCf]) rfl))
  · have ga := getD_rows h_rm hx
    have ht := take_succ_of hx
    obtain ⟨xp, xg⟩ := x
    have hnext : (((ms.take (i.toNat + 1)).filter fun m => decide (m.g ≠ 0) && (decide (m.p ≠ 0) == w)).map (·.g)).map iC = if xg ≠ 0 ∧ (decide (xp ≠ 0) == w) = true then rs ++ [iC xg] else rs := by
      rw [ht, List.filter_append, List.map_append, List.map_append, ← hrs]
      by_cases h1 : xg = 0 <;> by_cases h2 : xp = 0 <;> cases w <;> simp [h1, h2]
    clear hrs ht
    cases w
    all_goals
      repeat' (cbv; first | refine .y ?_ | refine .n ?_ | refine .split (fun hc => ?_) fun hc => ?_ | refine EqQ.ints rfl (fun hc => ?_) fun hc => ?_ | refine .row ga ?_ | refine .wa fun v hv => ?_ | refine .ra fun v hv => ?_ | refine .qa fun v hv => ?_ | refine .len fun v hv => ?_ | refine .all True.intro fun v hv => ?_ | refine Lt.to (by decide) rfl ?_ | (refine .au fun vr vn hvr hvn hvl => ?_; try simp only [List.length_cons, List.length_nil] at hvl) | fail)
      all_goals (try cbv)
      all_goals first
        | (refine hA ⟨v, vr, vn⟩ _ ⟨by dsimp only; omega, by dsimp only; omega, ?_, hvn⟩ (by dsimp only; omega) rfl
           dsimp only
           rw [hvr, show v.toNat = i.toNat + 1 by omega, hnext, if_pos (by simp; omega)]; rfl)
        | (refine hA ⟨v, rs, n⟩ _ ⟨by dsimp only; omega, by dsimp only; omega, ?_, hn⟩ (by dsimp only; omega) rfl
           dsimp only
           rw [show v.toNat = i.toNat + 1 by omega, hnext, if_neg (by simp; omega)])

def okG (prog : List (List ID)) (g : GD) : Bool := decide (0 ≤ g.fn ∧ g.fn < prog.length ∧ 0 ≤ g.pc ∧ 0 ≤ g.sq ∧ g.sq < 2305843009213693952) && decide (g.pc ≤ (prog.getD g.fn.toNat []).length)
set_option maxHeartbeats 4000000 in
theorem c36 (s : SD) (hp : s.prog.length ≤ 1000000) (hg : s.gs.length ≤ 1000000) (b : Bool) (hb : b = s.gs.all (okG s.prog)) : CallsV Try.prog 36 [.agg (stC s)] (.bool b) [.undef] true := by
  obtain ⟨prog, gs, ps, ms, gl, c0, c1, c2, c3, w0, w1, w2, w3, ts, ck, pr⟩ := s
  obtain ⟨rp, rg, rq, rm, rl, r0, r1, r2, r3, rt, ⟨h_rp, s_rp, l_rp⟩, ⟨h_rg, s_rg, l_rg⟩, ⟨h_rq, s_rq, l_rq⟩, ⟨h_rm, s_rm, l_rm⟩, ⟨h_rl, s_rl, l_rl⟩, ⟨h_r0, s_r0, l_r0⟩, ⟨h_r1, s_r1, l_r1⟩, ⟨h_r2, s_r2, l_r2⟩, ⟨h_r3, s_r3, l_r3⟩, ⟨h_rt, s_rt, l_rt⟩, hst_⟩ := stR prog gs ps ms gl c0 c1 c2 c3 w0 w1 w2 w3 ts ck pr
  dsimp only at hp hg hb ⊢
  rw [hst_]
  refine callsV_q hD Try.func36 ok36 rfl rfl (by simp only [List.map_cons, List.map_nil, V.sh, V.shL, stL, s_rp, s_rg, s_rq, s_rm, s_rl, s_r0, s_r1, s_r2, s_r3, s_rt]) fun P Q hP hQ => ?_
  clear hst_
  obtain ⟨np, hnp⟩ : ∃ n : Int, 0 ≤ n ∧ n.toNat = prog.length := ⟨prog.length, by omega, by omega⟩
  repeat' (cbv; first | refine .y ?_ | refine .n ?_ | refine .split (fun hc => ?_) fun hc => ?_ | refine EqQ.ints rfl (fun hc => ?_) fun hc => ?_ | refine .wa fun v hv => ?_ | refine .ra fun v hv => ?_ | refine .qa fun v hv => ?_ | refine .len fun v hv => ?_ | refine .all True.intro fun v hv => ?_ | refine Lt.to (by decide) rfl ?_ | (refine .au fun vr vn hvr hvn hvl => ?_; try simp only [List.length_cons, List.length_nil] at hvl) | fail)
  all_goals (try cbv)
  refine LoopQ.to (ι := Int) (fun i => ⟨tab .undef [(1, .ptr 100 0), (3, .int .i64 i)], tab .dead [(100, .box (stL rp rg rq rm rl c0 c1 c2 c3 r0 r1 r2 r3 rt ck pr))]⟩)
    (fun i => 0 ≤ i ∧ i.toNat ≤ gs.length ∧ b = (gs.drop i.toNat).all (okG prog)) (fun i => gs.length - i.toNat) 0 ⟨by omega, by omega, hb⟩ rfl fun i ⟨i0, i1, hi⟩ A hA => ?_
  rcases drop_cases i1 with ⟨e, hd⟩ | ⟨hlt, x, hd, hx⟩
  · rw [hd] at hi
    repeat' (cbv; first | refine .y ?_ | refine .n ?_ | refine .split (fun hc => ?_) fun hc => ?_ | refine EqQ.ints rfl (fun hc => ?_) fun hc => ?_ | refine .wa fun v hv => ?_ | refine .ra fun v hv => ?_ | refine .qa fun v hv => ?_ | refine .len fun v hv => ?_ | refine .all True.intro fun v hv => ?_ | refine Lt.to (by decide) rfl ?_ | (refine .au fun vr vn hvr hvn hvl => ?_; try simp only [List.length_cons, List.length_nil] at hvl) | fail)
    all_goals (try cbv)
    have hbe : b = true := by rw [hi]; rfl
    subst hbe; refine hQ _ ?_; exact ⟨rfl, rfl, rfl, rfl, rfl⟩
  · rw [hd, List.all_cons] at hi
    have ga := getD_rows h_rg hx
    obtain ⟨xf, xp, xs, xm, xq⟩ := x
    unfold okG at hi
    dsimp only at hi
    obtain ⟨bl, hbl⟩ : ∃ bl, bl = decide (0 ≤ xq ∧ xq < 2305843009213693952) := ⟨_, rfl⟩
    have cl := c34 xq bl hbl
    by_cases hr : 0 ≤ xf ∧ xf.toNat < prog.length
    · obtain ⟨f, hf⟩ : ∃ f, prog[xf.toNat]? = some f := ⟨_, List.getElem?_eq_getElem hr.2⟩
      have gf := getD_rows h_rp hf
      have hgf : prog.getD xf.toNat [] = f := by rw [List.getD_eq_getElem?_getD, hf]; rfl
      rw [hgf] at hi
      obtain ⟨rf, h_rf⟩ : ∃ r, r = f.map jC := ⟨_, rfl⟩
      have s_rf : V.shR rf = rf := by rw [h_rf]; exact shR_jC f
      have l_rf : rf.length = f.length := by simp [h_rf]
      have gf' : rp.getD xf.toNat [] = [.sl false 2 rf] := by rw [gf, h_rf]; rfl
      have hlf : (xf < prog.length) = (xf < np) := by rw [show (prog.length : Int) = np by omega]
      simp only [hlf] at hi
      obtain ⟨nf, hnf⟩ : ∃ n : Int, 0 ≤ n ∧ n.toNat = f.length := ⟨f.length, by omega, by omega⟩
      have hlf2 : (xp ≤ f.length) = (xp ≤ nf) := by rw [show (f.length : Int) = nf by omega]
      simp only [hlf2] at hi
      cases bl
      all_goals
        have hbl' := hbl.symm
        simp only [decide_eq_false_iff_not, decide_eq_true_eq] at hbl'
        try rw [← hP] at cl
        repeat' (cbv; first | refine .y ?_ | refine .n ?_ | refine .split (fun hc => ?_) fun hc => ?_ | refine EqQ.ints rfl (fun hc => ?_) fun hc => ?_ | refine .row ga ?_ | refine .go cl ?_ | refine .row gf' ?_ | refine .wa fun v hv => ?_ | refine .ra fun v hv => ?_ | refine .qa fun v hv => ?_ | refine .len fun v hv => ?_ | refine .all True.intro fun v hv => ?_ | refine Lt.to (by decide) rfl ?_ | (refine .au fun vr vn hvr hvn hvl => ?_; try simp only [List.length_cons, List.length_nil] at hvl) | fail)
        all_goals (try cbv)
        all_goals first
          | (have hbe : b = false := by rw [hi, decide_eq_false (p := 0 ≤ xf ∧ xf < np ∧ 0 ≤ xp ∧ 0 ≤ xq ∧ xq < 2305843009213693952) (by omega)]; rfl
             subst hbe; (refine hQ _ ?_; exact ⟨rfl, rfl, rfl, rfl, rfl⟩))
          | (have hbe : b = false := by rw [hi, decide_eq_false (p := xp ≤ nf) (by omega), Bool.and_false, Bool.false_and]
             subst hbe; (refine hQ _ ?_; exact ⟨rfl, rfl, rfl, rfl, rfl⟩))
          | (rw [decide_eq_true (p := 0 ≤ xf ∧ xf < np ∧ 0 ≤ xp ∧ 0 ≤ xq ∧ xq < 2305843009213693952) (by omega), decide_eq_true (p := xp ≤ nf) (by omega), Bool.true_and, Bool.true_and] at hi
             exact hA _ _ ⟨by omega, by omega, by rw [hi, show v.toNat = i.toNat + 1 by omega]; rfl⟩ (by omega) rfl)
    · rw [decide_eq_false (p := 0 ≤ xf ∧ xf < prog.length ∧ 0 ≤ xp ∧ 0 ≤ xq ∧ xq < 2305843009213693952) (by omega), Bool.false_and, Bool.false_and] at hi
      try rw [← hP] at cl
      repeat' (cbv; first | refine .y ?_ | refine .n ?_ | refine .split (fun hc => ?_) fun hc => ?_ | refine EqQ.ints rfl (fun hc => ?_) fun hc => ?_ | refine .row ga ?_ | refine .go cl ?_ | refine .wa fun v hv => ?_ | refine .ra fun v hv => ?_ | refine .qa fun v hv => ?_ | refine .len fun v hv => ?_ | refine .all True.intro fun v hv => ?_ | refine Lt.to (by decide) rfl ?_ | (refine .au fun vr vn hvr hvn hvl => ?_; try simp only [List.length_cons, List.length_nil] at hvl) | fail)
      all_goals (try cbv)
      all_goals first
        | (have hbe : b = false := hi
           subst hbe; (refine hQ _ ?_; exact ⟨rfl, rfl, rfl, rfl, rfl⟩))
        | (exfalso; omega)
end Go.Ab
