/-
  ring: what the document's own answers are; two lists, are they the same?
-/
import Derived.Test.YtleilicpggnemaaRing2
namespace Go.Ab
open Go Go.Proofs
set_option maxRecDepth 100000

theorem may_iff {s : Nat → Int} {h m : Int} : May s h m ↔ 0 ≤ h ∧ h < 8 ∧ 0 ≤ m ∧ m ≤ 8 ∧ ∀ j : Int, 0 ≤ j → j < 8 → ((j - h + 8) % 8 < m → 1 ≤ s j.toNat) ∧ (m ≤ (j - h + 8) % 8 → s j.toNat = 0) := by
  constructor
  · rintro ⟨h0, h1, m0, m1, hall⟩
    refine ⟨h0, h1, m0, m1, fun j j0 j1 => ?_⟩
    have := hall ((j - h + 8) % 8) (by omega) (by omega)
    rwa [show idx h ((j - h + 8) % 8) = j.toNat by unfold idx; omega] at this
  · rintro ⟨h0, h1, m0, m1, hall⟩
    refine ⟨h0, h1, m0, m1, fun i i0 i1 => ?_⟩
    have := hall (idx h i) (by omega) (by unfold idx; omega)
    rw [show ((idx h i : Int) - h + 8) % 8 = i by unfold idx; omega] at this
    simpa using this

set_option maxHeartbeats 4000000 in
theorem c8 (s : Nat → Int) (h m : Int) (b : Bool) (hb : b = true ↔ May s h m) : CallsV Try.prog 8 [.agg (ringC s h m)] (.bool b) [.undef] true := by
  rw [may_iff] at hb
  refine callsV_q hD Try.func8 ok8 rfl rfl rfl fun P Q hP hQ => ?_
  repeat' (cbv; first | refine IfLt.t (by omega) ?_ | refine IfLt.f (by omega) ?_ | refine IfLt.split (fun hc => ?_) (fun hc => ?_) | refine IfLe.t (by omega) ?_ | refine IfLe.f (by omega) ?_ | refine IfLe.split (fun hc => ?_) (fun hc => ?_) | refine IfEq.t (by omega) ?_ | refine IfEq.f (by omega) ?_ | refine IfEq.split (fun hc => ?_) (fun hc => ?_) | refine Lt.wr (by omega) (by omega) fun v hv => ?_ | refine Lt.rem (by omega) (by omega) fun v hv => ?_ | refine Lt.quo (by omega) (by omega) (by omega) fun v hv => ?_ | refine Lt.len fun v hv => ?_ | refine Lt.all True.intro fun v hv => ?_ | refine Lt.to (by decide) rfl ?_ | fail)
  all_goals (try cbv)
  · have : b = false := by cases b <;> simp_all; omega
    subst this; exact hQ _ ⟨rfl, rfl, rfl, rfl, rfl⟩
  · have : b = false := by cases b <;> simp_all; omega
    subst this; exact hQ _ ⟨rfl, rfl, rfl, rfl, rfl⟩
  · have : b = false := by cases b <;> simp_all; omega
    subst this; exact hQ _ ⟨rfl, rfl, rfl, rfl, rfl⟩
  · have : b = false := by cases b <;> simp_all; omega
    subst this; exact hQ _ ⟨rfl, rfl, rfl, rfl, rfl⟩
  · refine LoopQ.to (ι := Int) (fun i => ⟨tab .undef [(1, .ptr 100 0), (3, .int .i64 i)], tab .dead [(100, .box (ringC s h m))]⟩)
      (fun i => 0 ≤ i ∧ i ≤ 8 ∧ ∀ j : Int, 0 ≤ j → j < i → ((j - h + 8) % 8 < m → 1 ≤ s j.toNat) ∧ (m ≤ (j - h + 8) % 8 → s j.toNat = 0)) (fun i => (8 - i).toNat) 0 ⟨by omega, by omega, fun j h h' => by omega⟩ rfl fun i ⟨i0, i1, hall⟩ A hA => ?_
    have next : ((i - h + 8) % 8 < m → 1 ≤ s i.toNat) → (m ≤ (i - h + 8) % 8 → s i.toNat = 0) → ∀ j : Int, 0 ≤ j → j < i + 1 → ((j - h + 8) % 8 < m → 1 ≤ s j.toNat) ∧ (m ≤ (j - h + 8) % 8 → s j.toNat = 0) := fun a b j j0 j1 => by
        by_cases e : j = i
        · subst e; exact ⟨a, b⟩
        · exact hall j j0 (by omega)
    have no : i < 8 → ¬ (((i - h + 8) % 8 < m → 1 ≤ s i.toNat) ∧ (m ≤ (i - h + 8) % 8 → s i.toNat = 0)) → b = false := fun i8 hn => by
        cases b with
        | false => rfl
        | true => exact (hn ((hb.1 rfl).2.2.2.2 i i0 i8)).elim
    rcases (show i = 8 ∨ i < 8 by omega) with e | i8
    · subst e
      repeat' (cbv; first | refine IfLt.t (by omega) ?_ | refine IfLt.f (by omega) ?_ | refine IfLt.split (fun hc => ?_) (fun hc => ?_) | refine IfLe.t (by omega) ?_ | refine IfLe.f (by omega) ?_ | refine IfLe.split (fun hc => ?_) (fun hc => ?_) | refine IfEq.t (by omega) ?_ | refine IfEq.f (by omega) ?_ | refine IfEq.split (fun hc => ?_) (fun hc => ?_) | refine Lt.wr (by omega) (by omega) fun v hv => ?_ | refine Lt.rem (by omega) (by omega) fun v hv => ?_ | refine Lt.quo (by omega) (by omega) (by omega) fun v hv => ?_ | refine Lt.len fun v hv => ?_ | refine Lt.all True.intro fun v hv => ?_ | refine Lt.to (by decide) rfl ?_ | fail)
      all_goals (try cbv)
      have : b = true := hb.2 ⟨by omega, by omega, by omega, by omega, fun j j0 j1 => hall j j0 (by omega)⟩
      subst this; exact hQ _ ⟨rfl, rfl, rfl, rfl, rfl⟩
    · clear hall
      rcases eight (j := i) (by omega) (by omega) with e | e | e | e | e | e | e | e <;> subst e
      all_goals
        simp only [Int.reduceToNat] at next no
        repeat' (cbv; first | refine IfLt.t (by omega) ?_ | refine IfLt.f (by omega) ?_ | refine IfLt.split (fun hc => ?_) (fun hc => ?_) | refine IfLe.t (by omega) ?_ | refine IfLe.f (by omega) ?_ | refine IfLe.split (fun hc => ?_) (fun hc => ?_) | refine IfEq.t (by omega) ?_ | refine IfEq.f (by omega) ?_ | refine IfEq.split (fun hc => ?_) (fun hc => ?_) | refine Lt.wr (by omega) (by omega) fun v hv => ?_ | refine Lt.rem (by omega) (by omega) fun v hv => ?_ | refine Lt.quo (by omega) (by omega) (by omega) fun v hv => ?_ | refine Lt.len fun v hv => ?_ | refine Lt.all True.intro fun v hv => ?_ | refine Lt.to (by decide) rfl ?_ | fail)
        all_goals (try cbv)
        all_goals first
          | exact hA _ _ ⟨by omega, by omega, by rw [hv]; exact next (by omega) (by omega)⟩ (by omega) rfl
          | (have : b = false := no (by omega) (by omega)
             subst this; exact hQ _ ⟨rfl, rfl, rfl, rfl, rfl⟩)

/-- A number as an element. -/
def iC (x : Int) : List V := [.int .i64 x]
theorem getD_iC {l : List Int} {k : Nat} (h : k < l.length) : (l.map iC).getD k [] = [.int .i64 (l.getD k 0)] := by
  simp [List.getD_eq_getElem?_getD, List.getElem?_eq_getElem h, iC]
theorem shR_match (ra : List (List V)) : (match ra with | [] => [] | r :: l => V.shL r :: V.shR l) = V.shR ra := by cases ra <;> rfl
theorem shR_iC (l : List Int) : V.shR (l.map iC) = l.map iC := by
  induction l with
  | nil => rfl
  | cons x l ih => simp only [List.map_cons, V.shR, ih]; rfl

set_option maxHeartbeats 4000000 in
theorem c13 (a b : List Int) (la : a.length < 9223372036854775808) (t : Bool) (ht : t = true ↔ a = b) : CallsV Try.prog 13 [.sl false 1 (a.map iC), .sl false 1 (b.map iC)] (.bool t) [.undef, .undef] true := by
  obtain ⟨ra, ha⟩ : ∃ r, r = a.map iC := ⟨_, rfl⟩
  obtain ⟨rb, hb⟩ : ∃ r, r = b.map iC := ⟨_, rfl⟩
  have sa := shR_iC a
  have sb := shR_iC b
  have la' : ra.length = a.length := by simp [ha]
  have lb' : rb.length = b.length := by simp [hb]
  rw [← ha] at sa
  rw [← hb] at sb
  rw [← ha, ← hb]
  refine callsV_q hD Try.func13 ok13 rfl rfl (by simp only [List.map_cons, List.map_nil, V.sh, sa, sb]) fun P Q hP hQ => ?_
  repeat' (cbv; first | refine IfLt.t (by omega) ?_ | refine IfLt.f (by omega) ?_ | refine IfLt.split (fun hc => ?_) (fun hc => ?_) | refine IfLe.t (by omega) ?_ | refine IfLe.f (by omega) ?_ | refine IfLe.split (fun hc => ?_) (fun hc => ?_) | refine IfEq.t (by omega) ?_ | refine IfEq.f (by omega) ?_ | refine IfEq.split (fun hc => ?_) (fun hc => ?_) | refine Lt.wr (by omega) (by omega) fun v hv => ?_ | refine Lt.rem (by omega) (by omega) fun v hv => ?_ | refine Lt.quo (by omega) (by omega) (by omega) fun v hv => ?_ | refine Lt.len fun v hv => ?_ | refine Lt.all True.intro fun v hv => ?_ | refine Lt.to (by decide) rfl ?_ | fail)
  all_goals (try cbv)
  · have hl : a.length = b.length := by omega
    refine LoopQ.to (ι := Int) (fun i => ⟨tab .undef [(0, .sl false 1 ra), (1, .sl false 1 rb), (5, .int .i64 i)], tab .dead []⟩)
      (fun i => 0 ≤ i ∧ i.toNat ≤ a.length ∧ ∀ j : Nat, j < i.toNat → a.getD j 0 = b.getD j 0) (fun i => a.length - i.toNat) 0 ⟨by omega, by omega, fun j h => by omega⟩ rfl fun i ⟨i0, i1, hall⟩ A hA => ?_
    have ga : i.toNat < a.length → ra.getD i.toNat [] = [.int .i64 (a.getD i.toNat 0)] := fun h => by rw [ha, getD_iC h]
    have gb : i.toNat < b.length → rb.getD i.toNat [] = [.int .i64 (b.getD i.toNat 0)] := fun h => by rw [hb, getD_iC h]
    obtain ⟨xa, hxa⟩ : ∃ x, x = a.getD i.toNat 0 := ⟨_, rfl⟩
    obtain ⟨xb, hxb⟩ : ∃ x, x = b.getD i.toNat 0 := ⟨_, rfl⟩
    rw [← hxa] at ga
    rw [← hxb] at gb
    repeat' (cbv; first | refine Lt.to (⟨rfl, by omega, by omega⟩ : 1 = 1 ∧ 0 ≤ i ∧ i.toNat < ra.length) (ga (by omega)) ?_ | refine Lt.to (⟨rfl, by omega, by omega⟩ : 1 = 1 ∧ 0 ≤ i ∧ i.toNat < rb.length) (gb (by omega)) ?_ | refine IfLt.t (by omega) ?_ | refine IfLt.f (by omega) ?_ | refine IfLt.split (fun hc => ?_) (fun hc => ?_) | refine IfLe.t (by omega) ?_ | refine IfLe.f (by omega) ?_ | refine IfLe.split (fun hc => ?_) (fun hc => ?_) | refine IfEq.t (by omega) ?_ | refine IfEq.f (by omega) ?_ | refine IfEq.split (fun hc => ?_) (fun hc => ?_) | refine Lt.wr (by omega) (by omega) fun v hv => ?_ | refine Lt.rem (by omega) (by omega) fun v hv => ?_ | refine Lt.quo (by omega) (by omega) (by omega) fun v hv => ?_ | refine Lt.len fun v hv => ?_ | refine Lt.all True.intro fun v hv => ?_ | refine Lt.to (by decide) rfl ?_ | fail)
    all_goals (try cbv)
    · exact hA _ _ ⟨by omega, by omega, fun j hj => by
        by_cases e : j < i.toNat
        · exact hall j e
        · have : j = i.toNat := by omega
          subst this; omega⟩ (by omega) rfl
    · have : t = false := by
        cases t with
        | false => rfl
        | true => have := ht.1 rfl; subst this; omega
      subst this; exact hQ _ ⟨rfl, rfl, rfl, rfl, rfl⟩
    · have : t = true := ht.2 (List.ext_getElem hl fun j h1 h2 => by
        have := hall j (by omega)
        rwa [List.getD_eq_getElem?_getD, List.getD_eq_getElem?_getD, List.getElem?_eq_getElem h1, List.getElem?_eq_getElem h2] at this)
      subst this; exact hQ _ ⟨rfl, rfl, rfl, rfl, rfl⟩
  · have : t = false := by
      cases t with
      | false => rfl
      | true => have := ht.1 rfl; subst this; omega
    subst this; exact hQ _ ⟨rfl, rfl, rfl, rfl, rfl⟩

theorem fresh_iC {l : List Int} : ∀ x, x ∈ l → ∀ y, y ∈ iC x → y.fresh = true := fun x _ y hy => by
  simp only [iC, List.mem_singleton] at hy; subst hy; rfl

theorem fresh_take {k : Nat} {l : List Int} : ∀ x, x ∈ List.take k (List.map iC l) → ∀ y, y ∈ x → y.fresh = true := fun x hx y hy => by
  obtain ⟨z, _, rfl⟩ := List.mem_map.1 (List.mem_of_mem_take hx)
  simp only [iC, List.mem_singleton] at hy; subst hy; rfl

theorem take_next {l : List Int} {k : Nat} (h : k < l.length) : l.take (k + 1) = l.take k ++ [l.getD k 0] := by
  rw [List.take_succ_eq_append_getElem h]; simp [List.getD_eq_getElem?_getD, List.getElem?_eq_getElem h]

/-! ### List, as the document says it -/
set_option maxHeartbeats 4000000 in
theorem c9 (s : Nat → Int) (h m : Int) (l : List Int) (r : RingIs s h m l) : CallsV Try.prog 9 [.agg (ringC s h m)] (.own 1 (l.map iC)) [.undef] true := by
  refine callsV_q hD Try.func9 ok9 rfl rfl rfl fun P Q hP hQ => ?_
  have hmay := c8 s h m true (by simp [r.may])
  have h0 := r.h0
  have h1 := r.h1
  have m0 : 0 ≤ m := by have := r.me; omega
  have me : m.toNat = l.length := by have := r.me; omega
  have m1 := r.m1
  repeat' (cbv; first | refine IfLt.t (by omega) ?_ | refine IfLt.f (by omega) ?_ | refine IfLt.split (fun hc => ?_) (fun hc => ?_) | refine IfLe.t (by omega) ?_ | refine IfLe.f (by omega) ?_ | refine IfLe.split (fun hc => ?_) (fun hc => ?_) | refine IfEq.t (by omega) ?_ | refine IfEq.f (by omega) ?_ | refine IfEq.split (fun hc => ?_) (fun hc => ?_) | refine Lt.wr (by omega) (by omega) fun v hv => ?_ | refine Lt.rem (by omega) (by omega) fun v hv => ?_ | refine Lt.quo (by omega) (by omega) (by omega) fun v hv => ?_ | refine Lt.len fun v hv => ?_ | refine Lt.all True.intro fun v hv => ?_ | refine Lt.to (by decide) rfl ?_ | fail)
  all_goals (try cbv)
  refine LoopQ.to (ι := Int × List (List V) × Nat) (fun p => ⟨tab .undef [(1, .ptr 100 0), (3, .sref 110 0 p.2.2), (4, .int .i64 p.1)], tab .dead [(100, .box (ringC s h m)), (110, .rows 1 p.2.1)]⟩)
    (fun p => 0 ≤ p.1 ∧ p.1 ≤ m ∧ p.2.1 = (l.take p.1.toNat).map iC ∧ p.2.2 = p.2.1.length) (fun p => (m - p.1).toNat) (0, [], 0) ⟨by omega, by omega, by simp, rfl⟩ rfl fun ⟨i, rs, n⟩ ⟨i0, i1, hrs, hn⟩ A hA => ?_
  simp only at i0 i1 hrs hn
  have hn' : n = i.toNat := by rw [hn, hrs]; simp; omega
  repeat' (cbv; first | refine CallQ.to (hP ▸ hmay) rfl (.inl rfl) ?_ | refine IfLt.t (by omega) ?_ | refine IfLt.f (by omega) ?_ | refine IfLt.split (fun hc => ?_) (fun hc => ?_) | refine IfLe.t (by omega) ?_ | refine IfLe.f (by omega) ?_ | refine IfLe.split (fun hc => ?_) (fun hc => ?_) | refine IfEq.t (by omega) ?_ | refine IfEq.f (by omega) ?_ | refine IfEq.split (fun hc => ?_) (fun hc => ?_) | refine Lt.wr (by omega) (by omega) fun v hv => ?_ | refine Lt.rem (by omega) (by omega) fun v hv => ?_ | refine Lt.quo (by omega) (by omega) (by omega) fun v hv => ?_ | refine Lt.len fun v hv => ?_ | refine Lt.all True.intro fun v hv => ?_ | refine Lt.to (by decide) rfl ?_ | fail)
  all_goals (try cbv)
  · obtain ⟨x, hx⟩ : ∃ x, x = l.getD i.toNat 0 := ⟨_, rfl⟩
    have hsx : s v.toNat = x := by rw [show v.toNat = idx h i by unfold idx; omega, r.idx (by omega) (by omega), hx]
    rcases eight (j := v) (by omega) (by omega) with e | e | e | e | e | e | e | e <;> subst e
    all_goals
      simp only [Int.reduceToNat] at hsx
      repeat' (cbv; first | refine Lt.all (by refine ⟨hn, ?_⟩; show (n + 1) * 8 ≤ _; omega) fun v hv => ?_ | refine IfLt.t (by omega) ?_ | refine IfLt.f (by omega) ?_ | refine IfLt.split (fun hc => ?_) (fun hc => ?_) | refine IfLe.t (by omega) ?_ | refine IfLe.f (by omega) ?_ | refine IfLe.split (fun hc => ?_) (fun hc => ?_) | refine IfEq.t (by omega) ?_ | refine IfEq.f (by omega) ?_ | refine IfEq.split (fun hc => ?_) (fun hc => ?_) | refine Lt.wr (by omega) (by omega) fun v hv => ?_ | refine Lt.rem (by omega) (by omega) fun v hv => ?_ | refine Lt.quo (by omega) (by omega) (by omega) fun v hv => ?_ | refine Lt.len fun v hv => ?_ | refine Lt.all True.intro fun v hv => ?_ | refine Lt.to (by decide) rfl ?_ | fail)
      all_goals (try cbv)
      rename_i rs' hrs' n' hn2
      refine hA (v, rs', n') _ ⟨by show 0 ≤ v; omega, by show v ≤ m; omega, ?_, ?_⟩ (by show (m - v).toNat < (m - i).toNat; omega) rfl
      · show rs' = (l.take v.toNat).map iC
        rw [hrs', hsx, hrs, hx, hv, show (i + 1).toNat = i.toNat + 1 by omega, take_next (by omega)]
        simp [iC]
      · show n' = rs'.length
        rw [hn2, hrs', hn]; simp
  · have hi : i.toNat = l.length := by omega
    rw [hi, List.take_length] at hrs
    subst hn hrs
    exact hQ _ ⟨by simp [t9, pack, RV.ev, resG, giveC, tab], rfl, by simp [t9, RV.ev, giveC, tab, V.notTup, V.cells, okGood]; exact fresh_iC, rfl, rfl⟩
end Go.Ab
