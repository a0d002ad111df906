/-
  ring: a ring has a list; what is pushed, what is popped.
-/
import Derived.Test.YtleilicpggnemaaRing1
namespace Go.Ab
open Go Go.Proofs
set_option maxRecDepth 100000

/-- The ring with these cells may be, and holds this list. -/
structure RingIs (s : Nat → Int) (h m : Int) (l : List Int) : Prop where
  h0 : 0 ≤ h
  h1 : h < 8
  m1 : l.length ≤ 8
  me : m = l.length
  pos : ∀ x ∈ l, 1 ≤ x
  at' : ∀ j : Nat, j < 8 → s j = l.getD ((j - h + 8) % 8).toNat 0

theorem getD_pos {l : List Int} (hp : ∀ x ∈ l, 1 ≤ x) {k : Nat} (h : k < l.length) : 1 ≤ l.getD k 0 := by
  rw [List.getD_eq_getElem?_getD, List.getElem?_eq_getElem h]
  exact hp _ (List.getElem_mem h)
theorem getD_zero {l : List Int} {k : Nat} (h : l.length ≤ k) : l.getD k 0 = 0 := by
  rw [List.getD_eq_getElem?_getD, List.getElem?_eq_none h]; rfl

theorem RingIs.idx {s : Nat → Int} {h m : Int} {l : List Int} (r : RingIs s h m l) {i : Int} (i0 : 0 ≤ i) (i1 : i < 8) : s (idx h i) = l.getD i.toNat 0 := by
  have h0 := r.h0
  have h1 := r.h1
  have hlt : Go.Ab.idx h i < 8 := by unfold Go.Ab.idx; omega
  rw [r.at' _ hlt]
  congr 1
  unfold Go.Ab.idx; omega

theorem RingIs.may {s : Nat → Int} {h m : Int} {l : List Int} (r : RingIs s h m l) : May s h m := by
  have h1 := r.m1
  have h2 := r.me
  refine ⟨r.h0, r.h1, by omega, by omega, fun i i0 i1 => ?_⟩
  rw [r.idx i0 i1]
  exact ⟨fun e => getD_pos r.pos (by omega), fun e => getD_zero (by omega)⟩

theorem May.ring {s : Nat → Int} {h m : Int} (r : May s h m) : ∃ l, RingIs s h m l := by
  obtain ⟨h0, h1, m0, m1, hall⟩ := r
  refine ⟨(List.range m.toNat).map fun i : Nat => s (idx h (i : Int)), h0, h1, by simp; omega, by simp; omega, fun x hx => ?_, fun j hj => ?_⟩
  · simp only [List.mem_map, List.mem_range] at hx
    obtain ⟨i, hi, rfl⟩ := hx
    exact (hall i (by omega) (by omega)).1 (by omega)
  · have e : idx h ((j - h + 8) % 8) = j := by unfold idx; omega
    by_cases c : (j - h + 8) % 8 < m
    · rw [List.getD_eq_getElem?_getD, List.getElem?_map, List.getElem?_range (by omega)]
      simp only [Option.map_some, Option.getD_some]
      rw [show (((((j : Int) - h + 8) % 8).toNat : Nat) : Int) = (j - h + 8) % 8 by omega, e]
    · rw [getD_zero (by simp; omega), ← e]
      exact (hall ((j - h + 8) % 8) (by omega) (by omega)).2 (by omega)

theorem RingIs.nil : RingIs (fun _ => 0) 0 0 [] := ⟨by omega, by omega, by simp, by simp, by simp, fun j hj => by simp⟩

theorem ringC_congr {s s' : Nat → Int} {h m : Int} (e : ∀ j, j < 8 → s j = s' j) : ringC s h m = ringC s' h m := by
  simp only [ringC, e 0 (by omega), e 1 (by omega), e 2 (by omega), e 3 (by omega), e 4 (by omega), e 5 (by omega), e 6 (by omega), e 7 (by omega)]

/-! ### Push -/
set_option maxHeartbeats 4000000 in
theorem c10_ok (s s' : Nat → Int) (h m m' v : Int) (hm : May s h m) (m8 : m < 8) (v1 : 1 ≤ v) (hs : ∀ j, j < 8 → s' j = if j = idx h m then v else s j) (em : m' = m + 1) :
    CallsV Try.prog 10 [.agg (ringC s h m), .int .i64 v] (.tup [.agg (ringC s' h m'), .bool true]) [.undef, .undef] true := by
  refine callsV_q hD Try.func10 ok10 rfl rfl rfl fun P Q hP hQ => ?_
  have h0 := hm.1
  have h1 := hm.2.1
  have m0 := hm.2.2.1
  have hmay := c12 s h m true (by simp [hm])
  repeat' (cbv; first | refine CallQ.to (hP ▸ hmay) rfl (.inl rfl) ?_ | refine IfLt.t (by omega) ?_ | refine IfLt.f (by omega) ?_ | refine IfLt.split (fun hc => ?_) (fun hc => ?_) | refine IfLe.t (by omega) ?_ | refine IfLe.f (by omega) ?_ | refine IfLe.split (fun hc => ?_) (fun hc => ?_) | refine IfEq.t (by omega) ?_ | refine IfEq.f (by omega) ?_ | refine IfEq.split (fun hc => ?_) (fun hc => ?_) | refine Lt.wr (by omega) (by omega) fun v hv => ?_ | refine Lt.rem (by omega) (by omega) fun v hv => ?_ | refine Lt.quo (by omega) (by omega) (by omega) fun v hv => ?_ | refine Lt.len fun v hv => ?_ | refine Lt.all True.intro fun v hv => ?_ | refine Lt.to (by decide) rfl ?_ | fail)
  all_goals (try cbv)
  obtain ⟨j, hj⟩ : ∃ j, j = (h + m) % 8 := ⟨_, rfl⟩
  have hidx : idx h m = j.toNat := by rw [idx, hj]
  have hcc := c17 s h m m (by omega) (by omega) (by omega) (by omega) j hj
  rw [hidx] at hs
  have e0 := hs 0 (by omega)
  have e1 := hs 1 (by omega)
  have e2 := hs 2 (by omega)
  have e3 := hs 3 (by omega)
  have e4 := hs 4 (by omega)
  have e5 := hs 5 (by omega)
  have e6 := hs 6 (by omega)
  have e7 := hs 7 (by omega)
  clear hs
  rcases eight (j := j) (by omega) (by omega) with e | e | e | e | e | e | e | e <;> subst e <;> refine CallQ.to (hP ▸ hcc) rfl (.inl rfl) ?_
  all_goals
    simp at e0 e1 e2 e3 e4 e5 e6 e7
    repeat' (cbv; first | refine IfLt.t (by omega) ?_ | refine IfLt.f (by omega) ?_ | refine IfLt.split (fun hc => ?_) (fun hc => ?_) | refine IfLe.t (by omega) ?_ | refine IfLe.f (by omega) ?_ | refine IfLe.split (fun hc => ?_) (fun hc => ?_) | refine IfEq.t (by omega) ?_ | refine IfEq.f (by omega) ?_ | refine IfEq.split (fun hc => ?_) (fun hc => ?_) | refine Lt.wr (by omega) (by omega) fun v hv => ?_ | refine Lt.rem (by omega) (by omega) fun v hv => ?_ | refine Lt.quo (by omega) (by omega) (by omega) fun v hv => ?_ | refine Lt.len fun v hv => ?_ | refine Lt.all True.intro fun v hv => ?_ | refine Lt.to (by decide) rfl ?_ | fail)
    all_goals (try cbv)
    have : m' = v := by omega
    subst this
    exact hQ _ ⟨by simp only [ringC, e0, e1, e2, e3, e4, e5, e6, e7]; rfl, rfl, rfl, rfl, rfl⟩

theorem c10_no (s : Nat → Int) (h m v : Int) (b : Bool) (hb : b = true ↔ May s h m) (hn : b = false ∨ m = 8 ∨ v < 1) :
    CallsV Try.prog 10 [.agg (ringC s h m), .int .i64 v] (.tup [.agg (ringC (fun _ => 0) 0 0), .bool false]) [.undef, .undef] true := by
  refine callsV_q hD Try.func10 ok10 rfl rfl rfl fun P Q hP hQ => ?_
  have hmay := c12 s h m b hb
  cases b with
  | false =>
    repeat' (cbv; first | refine CallQ.to (hP ▸ hmay) rfl (.inl rfl) ?_ | refine IfLt.t (by omega) ?_ | refine IfLt.f (by omega) ?_ | refine IfLt.split (fun hc => ?_) (fun hc => ?_) | refine IfLe.t (by omega) ?_ | refine IfLe.f (by omega) ?_ | refine IfLe.split (fun hc => ?_) (fun hc => ?_) | refine IfEq.t (by omega) ?_ | refine IfEq.f (by omega) ?_ | refine IfEq.split (fun hc => ?_) (fun hc => ?_) | refine Lt.wr (by omega) (by omega) fun v hv => ?_ | refine Lt.rem (by omega) (by omega) fun v hv => ?_ | refine Lt.quo (by omega) (by omega) (by omega) fun v hv => ?_ | refine Lt.len fun v hv => ?_ | refine Lt.all True.intro fun v hv => ?_ | refine Lt.to (by decide) rfl ?_ | fail)
    all_goals (try cbv)
    exact hQ _ ⟨rfl, rfl, rfl, rfl, rfl⟩
  | true =>
    simp only [Bool.true_eq_false, false_or] at hn
    repeat' (cbv; first | refine CallQ.to (hP ▸ hmay) rfl (.inl rfl) ?_ | refine IfLt.t (by omega) ?_ | refine IfLt.f (by omega) ?_ | refine IfLt.split (fun hc => ?_) (fun hc => ?_) | refine IfLe.t (by omega) ?_ | refine IfLe.f (by omega) ?_ | refine IfLe.split (fun hc => ?_) (fun hc => ?_) | refine IfEq.t (by omega) ?_ | refine IfEq.f (by omega) ?_ | refine IfEq.split (fun hc => ?_) (fun hc => ?_) | refine Lt.wr (by omega) (by omega) fun v hv => ?_ | refine Lt.rem (by omega) (by omega) fun v hv => ?_ | refine Lt.quo (by omega) (by omega) (by omega) fun v hv => ?_ | refine Lt.len fun v hv => ?_ | refine Lt.all True.intro fun v hv => ?_ | refine Lt.to (by decide) rfl ?_ | fail)
    all_goals (try cbv)
    all_goals first | exact hQ _ ⟨rfl, rfl, rfl, rfl, rfl⟩ | (exfalso; omega)

/-- What is pushed stands behind all others. -/
theorem RingIs.push {s : Nat → Int} {h m v : Int} {l : List Int} (r : RingIs s h m l) (hl : l.length < 8) (hv : 1 ≤ v) :
    RingIs (fun j => if j = Go.Ab.idx h m then v else s j) h (m + 1) (l ++ [v]) := by
  have h0 := r.h0
  have h1 := r.h1
  have me := r.me
  refine ⟨r.h0, r.h1, by simp; omega, by simp; omega, fun x hx => ?_, fun j hj => ?_⟩
  · rcases List.mem_append.1 hx with hx | hx
    · exact r.pos x hx
    · simp at hx; omega
  · by_cases e : j = Go.Ab.idx h m
    · rw [if_pos e]
      have : ((j - h + 8) % 8).toNat = l.length := by rw [e]; unfold Go.Ab.idx; omega
      rw [this]; simp
    · rw [if_neg e, r.at' j hj]
      have hne : ((j - h + 8) % 8).toNat ≠ l.length := fun e' => e (by unfold Go.Ab.idx; omega)
      by_cases c : ((j - h + 8) % 8).toNat < l.length
      · rw [List.getD_eq_getElem?_getD, List.getD_eq_getElem?_getD, List.getElem?_append_left c]
      · rw [getD_zero (by omega), getD_zero (by simp; omega)]

theorem push_ok {s : Nat → Int} {h m v : Int} {l : List Int} (r : RingIs s h m l) (hl : l.length < 8) (hv : 1 ≤ v) :
    ∃ s' m', RingIs s' h m' (l ++ [v]) ∧ CallsV Try.prog 10 [.agg (ringC s h m), .int .i64 v] (.tup [.agg (ringC s' h m'), .bool true]) [.undef, .undef] true :=
  ⟨_, _, r.push hl hv, c10_ok s _ h m _ v r.may (by have := r.me; omega) hv (fun _ _ => rfl) rfl⟩

theorem push_no {s : Nat → Int} {h m v : Int} {l : List Int} (r : RingIs s h m l) (hn : l.length = 8 ∨ v < 1) :
    CallsV Try.prog 10 [.agg (ringC s h m), .int .i64 v] (.tup [.agg (ringC (fun _ => 0) 0 0), .bool false]) [.undef, .undef] true :=
  c10_no s h m v true (by simp [r.may]) (.inr (by have := r.me; omega))

/-! ### Pop -/
set_option maxHeartbeats 4000000 in
theorem c11_ok (s s' : Nat → Int) (h m h' m' x : Int) (hm : May s h m) (m8 : 0 < m) (hs : ∀ j, j < 8 → s' j = if j = h.toNat then 0 else s j) (em : m' = m - 1) (eh : h' = (h + 1) % 8) (ex : x = s h.toNat) :
    CallsV Try.prog 11 [.agg (ringC s h m)] (.tup [.agg (ringC s' h' m'), .int .i64 x, .bool true]) [.undef] true := by
  refine callsV_q hD Try.func11 ok11 rfl rfl rfl fun P Q hP hQ => ?_
  have h0 := hm.1
  have h1 := hm.2.1
  have m0 := hm.2.2.2.1
  have hmay := c12 s h m true (by simp [hm])
  have e0 := hs 0 (by omega)
  have e1 := hs 1 (by omega)
  have e2 := hs 2 (by omega)
  have e3 := hs 3 (by omega)
  have e4 := hs 4 (by omega)
  have e5 := hs 5 (by omega)
  have e6 := hs 6 (by omega)
  have e7 := hs 7 (by omega)
  clear hs
  rcases eight (j := h) (by omega) (by omega) with e | e | e | e | e | e | e | e <;> subst e
  all_goals
    simp at e0 e1 e2 e3 e4 e5 e6 e7 ex
    repeat' (cbv; first | refine CallQ.to (hP ▸ hmay) rfl (.inl rfl) ?_ | refine IfLt.t (by omega) ?_ | refine IfLt.f (by omega) ?_ | refine IfLt.split (fun hc => ?_) (fun hc => ?_) | refine IfLe.t (by omega) ?_ | refine IfLe.f (by omega) ?_ | refine IfLe.split (fun hc => ?_) (fun hc => ?_) | refine IfEq.t (by omega) ?_ | refine IfEq.f (by omega) ?_ | refine IfEq.split (fun hc => ?_) (fun hc => ?_) | refine Lt.wr (by omega) (by omega) fun v hv => ?_ | refine Lt.rem (by omega) (by omega) fun v hv => ?_ | refine Lt.quo (by omega) (by omega) (by omega) fun v hv => ?_ | refine Lt.len fun v hv => ?_ | refine Lt.all True.intro fun v hv => ?_ | refine Lt.to (by decide) rfl ?_ | fail)
    all_goals (try cbv)
    have hcc := c17 s' _ m 1 h0 h1 (by omega) (by omega) _ eh
    refine CallQ.to (hP ▸ hcc) (by simp only [ringC, e0, e1, e2, e3, e4, e5, e6, e7]) (.inl rfl) ?_
    repeat' (cbv; first | refine IfLt.t (by omega) ?_ | refine IfLt.f (by omega) ?_ | refine IfLt.split (fun hc => ?_) (fun hc => ?_) | refine IfLe.t (by omega) ?_ | refine IfLe.f (by omega) ?_ | refine IfLe.split (fun hc => ?_) (fun hc => ?_) | refine IfEq.t (by omega) ?_ | refine IfEq.f (by omega) ?_ | refine IfEq.split (fun hc => ?_) (fun hc => ?_) | refine Lt.wr (by omega) (by omega) fun v hv => ?_ | refine Lt.rem (by omega) (by omega) fun v hv => ?_ | refine Lt.quo (by omega) (by omega) (by omega) fun v hv => ?_ | refine Lt.len fun v hv => ?_ | refine Lt.all True.intro fun v hv => ?_ | refine Lt.to (by decide) rfl ?_ | fail)
    all_goals (try cbv)
    have : m' = v := by omega
    subst this
    exact hQ _ ⟨by simp only [ringC, ex, e0, e1, e2, e3, e4, e5, e6, e7]; rfl, rfl, rfl, rfl, rfl⟩

theorem c11_no (s : Nat → Int) (h m : Int) (b : Bool) (hb : b = true ↔ May s h m) (s' : Nat → Int) (h' m' : Int) (hn : (b = false ∧ s' = (fun _ => 0) ∧ h' = 0 ∧ m' = 0) ∨ (b = true ∧ m = 0 ∧ s' = s ∧ h' = h ∧ m' = m)) :
    CallsV Try.prog 11 [.agg (ringC s h m)] (.tup [.agg (ringC s' h' m'), .int .i64 0, .bool false]) [.undef] true := by
  refine callsV_q hD Try.func11 ok11 rfl rfl rfl fun P Q hP hQ => ?_
  have hmay := c12 s h m b hb
  rcases hn with ⟨rfl, rfl, rfl, rfl⟩ | ⟨rfl, m0, rfl, rfl, rfl⟩
  · repeat' (cbv; first | refine CallQ.to (hP ▸ hmay) rfl (.inl rfl) ?_ | refine IfLt.t (by omega) ?_ | refine IfLt.f (by omega) ?_ | refine IfLt.split (fun hc => ?_) (fun hc => ?_) | refine IfLe.t (by omega) ?_ | refine IfLe.f (by omega) ?_ | refine IfLe.split (fun hc => ?_) (fun hc => ?_) | refine IfEq.t (by omega) ?_ | refine IfEq.f (by omega) ?_ | refine IfEq.split (fun hc => ?_) (fun hc => ?_) | refine Lt.wr (by omega) (by omega) fun v hv => ?_ | refine Lt.rem (by omega) (by omega) fun v hv => ?_ | refine Lt.quo (by omega) (by omega) (by omega) fun v hv => ?_ | refine Lt.len fun v hv => ?_ | refine Lt.all True.intro fun v hv => ?_ | refine Lt.to (by decide) rfl ?_ | fail)
    all_goals (try cbv)
    exact hQ _ ⟨rfl, rfl, rfl, rfl, rfl⟩
  · repeat' (cbv; first | refine CallQ.to (hP ▸ hmay) rfl (.inl rfl) ?_ | refine IfLt.t (by omega) ?_ | refine IfLt.f (by omega) ?_ | refine IfLt.split (fun hc => ?_) (fun hc => ?_) | refine IfLe.t (by omega) ?_ | refine IfLe.f (by omega) ?_ | refine IfLe.split (fun hc => ?_) (fun hc => ?_) | refine IfEq.t (by omega) ?_ | refine IfEq.f (by omega) ?_ | refine IfEq.split (fun hc => ?_) (fun hc => ?_) | refine Lt.wr (by omega) (by omega) fun v hv => ?_ | refine Lt.rem (by omega) (by omega) fun v hv => ?_ | refine Lt.quo (by omega) (by omega) (by omega) fun v hv => ?_ | refine Lt.len fun v hv => ?_ | refine Lt.all True.intro fun v hv => ?_ | refine Lt.to (by decide) rfl ?_ | fail)
    all_goals (try cbv)
    exact hQ _ ⟨rfl, rfl, rfl, rfl, rfl⟩

/-- What is popped stands ahead of all others. -/
theorem RingIs.pop {s : Nat → Int} {h m x : Int} {l : List Int} (r : RingIs s h m (x :: l)) :
    RingIs (fun j => if j = h.toNat then 0 else s j) ((h + 1) % 8) (m - 1) l ∧ x = s h.toNat := by
  have h0 := r.h0
  have h1 := r.h1
  have me := r.me
  have m1 := r.m1
  simp only [List.length_cons] at me m1
  refine ⟨⟨by omega, by omega, by omega, by omega, fun y hy => r.pos y (by simp [hy]), fun j hj => ?_⟩, ?_⟩
  · by_cases e : j = h.toNat
    · rw [if_pos e, getD_zero (by omega)]
    · rw [if_neg e, r.at' j hj]
      have : ((j - h + 8) % 8).toNat = ((j - (h + 1) % 8 + 8) % 8).toNat + 1 := by omega
      rw [this]; simp
  · rw [r.at' _ (by omega), show (((h.toNat : Nat) : Int) - h + 8) % 8 = 0 by omega]; rfl

theorem pop_ok {s : Nat → Int} {h m x : Int} {l : List Int} (r : RingIs s h m (x :: l)) :
    ∃ s' h' m', h' = (h + 1) % 8 ∧ RingIs s' h' m' l ∧ CallsV Try.prog 11 [.agg (ringC s h m)] (.tup [.agg (ringC s' h' m'), .int .i64 x, .bool true]) [.undef] true :=
  ⟨_, _, _, rfl, r.pop.1, c11_ok s _ h m _ _ x r.may (by have := r.me; simp at this; omega) (fun _ _ => rfl) rfl rfl r.pop.2⟩

theorem pop_no {s : Nat → Int} {h m : Int} (r : RingIs s h m []) :
    CallsV Try.prog 11 [.agg (ringC s h m)] (.tup [.agg (ringC s h m), .int .i64 0, .bool false]) [.undef] true :=
  c11_no s h m true (by simp [r.may]) s h m (.inr ⟨rfl, by have := r.me; simpa using this, rfl, rfl, rfl⟩)
end Go.Ab
