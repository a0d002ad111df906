/-
  ring: half of a ring; a ring of a list.
-/
import Derived.Test.YtleilicpggnemaaRing3
namespace Go.Ab
open Go Go.Proofs
set_option maxRecDepth 100000

/-- A ring's cells are known by its list. -/
theorem RingIs.same {s s' : Nat → Int} {h m m' : Int} {l : List Int} (r : RingIs s h m l) (r' : RingIs s' h m' l) : ringC s h m = ringC s' h m' := by
  have e : m = m' := by rw [r.me, r'.me]
  subst e
  exact ringC_congr fun j hj => by rw [r.at' j hj, r'.at' j hj]

structure HalfI where
  i : Int
  s : Nat → Int
  h : Int
  m : Int
  rs : List (List V)
  n : Nat

set_option maxHeartbeats 4000000 in
theorem half_ok {s : Nat → Int} {h m : Int} {l : List Int} (r : RingIs s h m l) :
    ∃ s' h' m', h' = (h + (m - m / 2)) % 8 ∧ RingIs s' h' m' (l.drop (l.length - l.length / 2)) ∧
      CallsV Try.prog 15 [.agg (ringC s h m)] (.tup [.agg (ringC s' h' m'), .own 1 ((l.take (l.length - l.length / 2)).map iC)]) [.undef] true := by
  -- the rings on the way
  have way : ∀ i, i ≤ l.length → ∃ s' h' m', h' = (h + (i : Nat)) % 8 ∧ RingIs s' h' m' (l.drop i) := by
    intro i
    induction i with
    | zero => intro _; exact ⟨s, h, m, by have := r.h0; have := r.h1; omega, r⟩
    | succ i ih =>
      intro hi
      obtain ⟨s', h', m', e, r'⟩ := ih (by omega)
      rw [List.drop_eq_getElem_cons (by omega)] at r'
      exact ⟨_, _, _, by omega, r'.pop.1⟩
  obtain ⟨k, hk⟩ : ∃ k, k = l.length - l.length / 2 := ⟨_, rfl⟩
  rw [← hk]
  obtain ⟨s', h', m', e, r'⟩ := way k (by omega)
  replace e : h' = (h + (m - m / 2)) % 8 := by have := r.me; omega
  refine ⟨s', h', m', e, r', ?_⟩
  clear way
  refine callsV_q hD Try.func15 ok15 rfl rfl rfl fun P Q hP hQ => ?_
  have hmay := c12 s h m true (by simp [r.may])
  have m0 : 0 ≤ m := by have := r.me; omega
  have me : m.toNat = l.length := by have := r.me; omega
  have m1 := r.m1
  repeat' (cbv; first | refine CallQ.to (hP ▸ hmay) rfl (.inl rfl) ?_ | refine IfLt.t (by omega) ?_ | refine IfLt.f (by omega) ?_ | refine IfLt.split (fun hc => ?_) (fun hc => ?_) | refine IfLe.t (by omega) ?_ | refine IfLe.f (by omega) ?_ | refine IfLe.split (fun hc => ?_) (fun hc => ?_) | refine IfEq.t (by omega) ?_ | refine IfEq.f (by omega) ?_ | refine IfEq.split (fun hc => ?_) (fun hc => ?_) | refine Lt.wr (by omega) (by omega) fun v hv => ?_ | refine Lt.rem (by omega) (by omega) fun v hv => ?_ | refine Lt.quo (by omega) (by omega) (by omega) fun v hv => ?_ | refine Lt.len fun v hv => ?_ | refine Lt.all True.intro fun v hv => ?_ | refine Lt.to (by decide) rfl ?_ | fail)
  all_goals (try cbv)
  rename_i v0 hv0
  have hvk : v = k := by omega
  refine LoopQ.to (ι := HalfI) (fun p => ⟨tab .undef [(1, .ptr 100 0), (2, .ptr 101 0), (4, .sref 110 0 p.n), (17, .int .i64 v), (18, .int .i64 p.i)], tab .dead [(100, .box (ringC p.s p.h p.m)), (101, .box (ringC (fun _ => 0) 0 0)), (110, .rows 1 p.rs)]⟩)
    (fun p => 0 ≤ p.i ∧ p.i ≤ v ∧ RingIs p.s p.h p.m (l.drop p.i.toNat) ∧ p.h = (h + p.i) % 8 ∧ p.rs = (l.take p.i.toNat).map iC ∧ p.n = p.rs.length) (fun p => (v - p.i).toNat) ⟨0, s, h, m, [], 0⟩
    ⟨by show (0 : Int) ≤ 0; omega, by show (0 : Int) ≤ v; omega, r, by show h = (h + 0) % 8; have := r.h0; have := r.h1; omega, rfl, rfl⟩ rfl fun p hp A hA => ?_
  obtain ⟨i, s1, h1, m1', rs, n⟩ := p
  obtain ⟨i0, i1, hr1, hh1, hrs, hn⟩ := hp
  dsimp only at i0 i1 hr1 hh1 hrs hn
  have hn' : n = i.toNat := by rw [hn, hrs]; simp; omega
  rcases (show i < v ∨ i = v by omega) with hi | hi
  · rw [List.drop_eq_getElem_cons (by omega)] at hr1
    obtain ⟨s2, h2, m2, e2, hr2, hpop⟩ := pop_ok hr1
    obtain ⟨x, hx⟩ : ∃ x, x = l[i.toNat]'(by omega) := ⟨_, rfl⟩
    rw [← hx] at hpop
    repeat' (cbv; first | refine CallQ.to (hP ▸ hpop) rfl (.inl rfl) ?_ | refine Lt.all (by refine ⟨hn, ?_⟩; show (n + 1) * 8 ≤ _; omega) fun v hv => ?_ | refine IfLt.t (by omega) ?_ | refine IfLt.f (by omega) ?_ | refine IfLt.split (fun hc => ?_) (fun hc => ?_) | refine IfLe.t (by omega) ?_ | refine IfLe.f (by omega) ?_ | refine IfLe.split (fun hc => ?_) (fun hc => ?_) | refine IfEq.t (by omega) ?_ | refine IfEq.f (by omega) ?_ | refine IfEq.split (fun hc => ?_) (fun hc => ?_) | refine Lt.wr (by omega) (by omega) fun v hv => ?_ | refine Lt.rem (by omega) (by omega) fun v hv => ?_ | refine Lt.quo (by omega) (by omega) (by omega) fun v hv => ?_ | refine Lt.len fun v hv => ?_ | refine Lt.all True.intro fun v hv => ?_ | refine Lt.to (by decide) rfl ?_ | fail)
    all_goals (try cbv)
    rename_i rs' hrs' n' hn2
    refine hA ⟨v, s2, h2, m2, rs', n'⟩ _ ⟨by show 0 ≤ v; omega, by show v ≤ _; omega, ?_, by show h2 = (h + v) % 8; omega, ?_, ?_⟩ (by show (_ - v).toNat < (_ - i).toNat; omega) rfl
    · show RingIs s2 h2 m2 (l.drop v.toNat)
      rw [hv, show (i + 1).toNat = i.toNat + 1 by omega]; exact hr2
    · show rs' = (l.take v.toNat).map iC
      rw [hrs', hrs, hv, show (i + 1).toNat = i.toNat + 1 by omega, List.take_succ_eq_append_getElem (by omega), ← hx]
      simp [iC]
    · show n' = rs'.length
      rw [hn2, hrs', hn]; simp
  · subst hi
    have hi : i.toNat = k := by omega
    rw [hi] at hr1 hrs
    have he : h1 = h' := by omega
    subst he
    have hc := hr1.same r'
    repeat' (cbv; first | refine IfLt.t (by omega) ?_ | refine IfLt.f (by omega) ?_ | refine IfLt.split (fun hc => ?_) (fun hc => ?_) | refine IfLe.t (by omega) ?_ | refine IfLe.f (by omega) ?_ | refine IfLe.split (fun hc => ?_) (fun hc => ?_) | refine IfEq.t (by omega) ?_ | refine IfEq.f (by omega) ?_ | refine IfEq.split (fun hc => ?_) (fun hc => ?_) | refine Lt.wr (by omega) (by omega) fun v hv => ?_ | refine Lt.rem (by omega) (by omega) fun v hv => ?_ | refine Lt.quo (by omega) (by omega) (by omega) fun v hv => ?_ | refine Lt.len fun v hv => ?_ | refine Lt.all True.intro fun v hv => ?_ | refine Lt.to (by decide) rfl ?_ | fail)
    all_goals (try cbv)
    subst hn hrs
    exact hQ _ ⟨by rw [← hc]; simp [t15, pack, RV.ev, resG, giveC, tab, pickc, ringC], rfl, by simp [t15, RV.ev, giveC, tab, V.notTup, V.cells, okGood, pickc, V.closed, V.fresh]; exact fresh_take, rfl, rfl⟩

/-! ### Of -/
/-- A list that a ring may be of. -/
def OfOk (l : List Int) : Prop := l.length ≤ 8 ∧ ∀ x ∈ l, 1 ≤ x

structure OfI where
  i : Int
  s : Nat → Int
  h : Int
  m : Int

set_option maxHeartbeats 4000000 in
theorem of_all (l : List Int) (hl : l.length < 9223372036854775808) (b : Bool) (hb : b = true ↔ OfOk l) :
    ∃ s h m, h = 0 ∧ (b = true → RingIs s h m l) ∧ (b = false → s = (fun _ => 0) ∧ m = 0) ∧ CallsV Try.prog 16 [.sl false 1 (l.map iC)] (.tup [.agg (ringC s h m), .bool b]) [.undef] true := by
  have way : ∀ i, i ≤ l.length → OfOk l → ∃ s m, RingIs s 0 m (l.take i) := by
    intro i
    induction i with
    | zero => intro _ _; exact ⟨_, _, by simpa using RingIs.nil⟩
    | succ i ih =>
      intro hi ho
      obtain ⟨s', m', r'⟩ := ih (by omega) ho
      rw [List.take_succ_eq_append_getElem (by omega)]
      exact ⟨_, _, r'.push (by have := ho.1; simp; omega) (ho.2 _ (List.getElem_mem _))⟩
  obtain ⟨s', m', hs', hf'⟩ : ∃ s m, (b = true → RingIs s 0 m l) ∧ (b = false → s = (fun _ => 0) ∧ m = 0) := by
    cases b with
    | true =>
      obtain ⟨s', m', r'⟩ := way l.length (by omega) (hb.1 rfl)
      rw [List.take_length] at r'
      exact ⟨s', m', fun _ => r', fun e => by cases e⟩
    | false => exact ⟨fun _ => 0, 0, (fun e => by cases e), fun _ => ⟨rfl, rfl⟩⟩
  refine ⟨s', 0, m', rfl, hs', hf', ?_⟩
  clear way
  obtain ⟨ra, ha⟩ : ∃ r, r = l.map iC := ⟨_, rfl⟩
  have sa := shR_iC l
  have la' : ra.length = l.length := by simp [ha]
  rw [← ha] at sa
  rw [← ha]
  refine callsV_q hD Try.func16 ok16 rfl rfl (by simp only [List.map_cons, List.map_nil, V.sh, sa]) fun P Q hP hQ => ?_
  repeat' (cbv; first | refine IfLt.t (by omega) ?_ | refine IfLt.f (by omega) ?_ | refine IfLt.split (fun hc => ?_) (fun hc => ?_) | refine IfLe.t (by omega) ?_ | refine IfLe.f (by omega) ?_ | refine IfLe.split (fun hc => ?_) (fun hc => ?_) | refine IfEq.t (by omega) ?_ | refine IfEq.f (by omega) ?_ | refine IfEq.split (fun hc => ?_) (fun hc => ?_) | refine Lt.wr (by omega) (by omega) fun v hv => ?_ | refine Lt.rem (by omega) (by omega) fun v hv => ?_ | refine Lt.quo (by omega) (by omega) (by omega) fun v hv => ?_ | refine Lt.len fun v hv => ?_ | refine Lt.all True.intro fun v hv => ?_ | refine Lt.to (by decide) rfl ?_ | fail)
  all_goals (try cbv)
  refine LoopQ.to (ι := OfI) (fun p => ⟨tab .undef [(2, .ptr 100 0), (4, .ptr 101 0), (9, .sl false 1 ra), (10, .int .i64 v), (11, .int .i64 p.i)], tab .dead [(100, .box (ringC (fun _ => 0) 0 0)), (101, .box (ringC p.s p.h p.m))]⟩)
    (fun p => 0 ≤ p.i ∧ p.i ≤ v ∧ p.h = 0 ∧ RingIs p.s p.h p.m (l.take p.i.toNat)) (fun p => (v - p.i).toNat) ⟨0, fun _ => 0, 0, 0⟩
    ⟨by show (0 : Int) ≤ 0; omega, by show (0 : Int) ≤ v; omega, rfl, RingIs.nil⟩ rfl fun p hp A hA => ?_
  obtain ⟨i, s1, h1, m1⟩ := p
  obtain ⟨i0, i1, hh1, hr1⟩ := hp
  dsimp only at i0 i1 hh1 hr1
  rcases (show i < v ∨ i = v by omega) with hi | hi
  · obtain ⟨x, hx⟩ : ∃ x, x = l[i.toNat]'(by omega) := ⟨_, rfl⟩
    have ga : ra.getD i.toNat [] = [.int .i64 x] := by rw [ha, getD_iC (by omega), hx]; simp [List.getD_eq_getElem?_getD, List.getElem?_eq_getElem (show i.toNat < l.length by omega)]
    by_cases hno : (l.take i.toNat).length = 8 ∨ x < 1
    · have hpush := push_no hr1 hno
      have hbf : b = false := by
        cases b with
        | false => rfl
        | true =>
          have := hb.1 rfl
          rcases hno with h8 | hx1
          · simp at h8; have := this.1; omega
          · have := this.2 x (by rw [hx]; exact List.getElem_mem _); omega
      repeat' (cbv; first | refine CallQ.to (hP ▸ hpush) rfl (.inl rfl) ?_ | refine Lt.to (⟨rfl, by omega, by omega⟩ : 1 = 1 ∧ 0 ≤ i ∧ i.toNat < ra.length) ga ?_ | refine IfLt.t (by omega) ?_ | refine IfLt.f (by omega) ?_ | refine IfLt.split (fun hc => ?_) (fun hc => ?_) | refine IfLe.t (by omega) ?_ | refine IfLe.f (by omega) ?_ | refine IfLe.split (fun hc => ?_) (fun hc => ?_) | refine IfEq.t (by omega) ?_ | refine IfEq.f (by omega) ?_ | refine IfEq.split (fun hc => ?_) (fun hc => ?_) | refine Lt.wr (by omega) (by omega) fun v hv => ?_ | refine Lt.rem (by omega) (by omega) fun v hv => ?_ | refine Lt.quo (by omega) (by omega) (by omega) fun v hv => ?_ | refine Lt.len fun v hv => ?_ | refine Lt.all True.intro fun v hv => ?_ | refine Lt.to (by decide) rfl ?_ | fail)
      all_goals (try cbv)
      obtain ⟨rfl, rfl⟩ := hf' hbf
      subst hbf
      exact hQ _ ⟨rfl, rfl, rfl, rfl, rfl⟩
    · obtain ⟨s2, m2, hr2, hpush⟩ := push_ok hr1 (v := x) (by have := hr1.m1; omega) (by omega)
      repeat' (cbv; first | refine CallQ.to (hP ▸ hpush) rfl (.inl rfl) ?_ | refine Lt.to (⟨rfl, by omega, by omega⟩ : 1 = 1 ∧ 0 ≤ i ∧ i.toNat < ra.length) ga ?_ | refine IfLt.t (by omega) ?_ | refine IfLt.f (by omega) ?_ | refine IfLt.split (fun hc => ?_) (fun hc => ?_) | refine IfLe.t (by omega) ?_ | refine IfLe.f (by omega) ?_ | refine IfLe.split (fun hc => ?_) (fun hc => ?_) | refine IfEq.t (by omega) ?_ | refine IfEq.f (by omega) ?_ | refine IfEq.split (fun hc => ?_) (fun hc => ?_) | refine Lt.wr (by omega) (by omega) fun v hv => ?_ | refine Lt.rem (by omega) (by omega) fun v hv => ?_ | refine Lt.quo (by omega) (by omega) (by omega) fun v hv => ?_ | refine Lt.len fun v hv => ?_ | refine Lt.all True.intro fun v hv => ?_ | refine Lt.to (by decide) rfl ?_ | fail)
      all_goals (try cbv)
      refine hA ⟨v, s2, h1, m2⟩ _ ⟨by show 0 ≤ v; omega, by show v ≤ _; omega, hh1, ?_⟩ (by show (_ - v).toNat < (_ - i).toNat; omega) rfl
      show RingIs s2 h1 m2 (l.take v.toNat)
      rw [hv, show (i + 1).toNat = i.toNat + 1 by omega, List.take_succ_eq_append_getElem (by omega), ← hx]
      exact hr2
  · subst hi
    rw [show i.toNat = l.length by omega, List.take_length] at hr1
    have hbt : b = true := hb.2 ⟨hr1.m1, hr1.pos⟩
    subst hh1
    have hc := hr1.same (hs' hbt)
    repeat' (cbv; first | refine IfLt.t (by omega) ?_ | refine IfLt.f (by omega) ?_ | refine IfLt.split (fun hc => ?_) (fun hc => ?_) | refine IfLe.t (by omega) ?_ | refine IfLe.f (by omega) ?_ | refine IfLe.split (fun hc => ?_) (fun hc => ?_) | refine IfEq.t (by omega) ?_ | refine IfEq.f (by omega) ?_ | refine IfEq.split (fun hc => ?_) (fun hc => ?_) | refine Lt.wr (by omega) (by omega) fun v hv => ?_ | refine Lt.rem (by omega) (by omega) fun v hv => ?_ | refine Lt.quo (by omega) (by omega) (by omega) fun v hv => ?_ | refine Lt.len fun v hv => ?_ | refine Lt.all True.intro fun v hv => ?_ | refine Lt.to (by decide) rfl ?_ | fail)
    all_goals (try cbv)
    subst hbt
    exact hQ _ ⟨by rw [← hc]; rfl, rfl, rfl, rfl, rfl⟩
end Go.Ab
