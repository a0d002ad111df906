/-
  What a function does, from what its text comes to: the theorem.
-/
import Derived.Test.YtleilicpggnemaaMachS23
namespace Go.Ab
open Go

variable {E : Ent} {n : Sz} {C : Ctx} {st : St} {a : Act} {P : Program}

theorem list_choose {α β : Type} (z : β) : ∀ (l : List α) (p : Nat → α → β → Prop), (∀ (i : Nat) r, l[i]? = some r → ∃ u, p i r u) → ∃ us : List β, us.length = l.length ∧ ∀ (i : Nat) r, l[i]? = some r → p i r (us.getD i z)
  | [], _, _ => ⟨[], rfl, fun i r hi => by simp at hi⟩
  | x :: l, p, h => by
    obtain ⟨u, hu⟩ := h 0 x rfl
    obtain ⟨us, h1, h2⟩ := list_choose z l (fun i => p (i + 1)) fun i r hi => h (i + 1) r (by simpa using hi)
    refine ⟨u :: us, by simp [h1], fun i r hi => ?_⟩
    cases i with
    | zero => simp at hi; subst hi; simpa using hu
    | succ i => simpa using h2 i r (by simpa using hi)

theorem objC_live {good : V → Bool} {cs : List V} (h : ∀ c ∈ cs, okGood good (giveC st c) = true) : ∀ r ∈ cs.flatMap objC, ∃ s rs, st.heap r = .rows s rs := by
  intro r hr
  obtain ⟨c, hc, hr⟩ := List.mem_flatMap.1 hr
  exact give_live (h c hc) r hr

theorem res_good (h : Inv E n C st a) {B : Ctx} {good : V → Bool} (hw : B.w = C.w) (hcl : ∀ c u, R C c u → c.closed = true → good c = true → R B c u) {v : V} {u : Value} (hR : R C v u)
    (hok : (v.notTup && v.cells.all fun c => okGood good (giveC st c)) = true) :
    RB2 B (resG st v) u ∧ (∀ vs, resG st v ≠ .tup vs) ∧ (owns2 (resG st v) u).Sublist ((v.cells.flatMap objC).filterMap (blkOf C)) := by
  simp only [Bool.and_eq_true, List.all_eq_true] at hok
  obtain ⟨hnt, hall⟩ := hok
  by_cases hv : ∃ cs, v = .agg cs
  · obtain ⟨cs, rfl⟩ := hv
    cases hR with
    | agg _ us hl h1 hr =>
      have hg : ∀ (j : Nat) (c : V), cs[j]? = some c → Given C B (giveC st c) (us.getD j undef) (objC c) := fun j c hj => give_good h hw hcl (hr j c hj) (hall c (by simpa [V.cells] using List.mem_of_getElem? hj))
      refine ⟨⟨us, rfl, by simpa using hl, h1, fun j c hj => ?_⟩, (fun vs e => by simp [resG] at e), ?_⟩
      · simp only [List.getElem?_map, Option.map_eq_some_iff] at hj
        obtain ⟨c', h2, rfl⟩ := hj
        exact (hg j c' h2).r
      · simp only [resG, owns2, V.cells]
        exact ownsL_give cs us (giveC st) hl fun j c hj => (hg j c hj).owns
  · have hne : ∀ cs, v ≠ .agg cs := fun cs e => hv ⟨cs, e⟩
    have ec := val_cells hne
    rw [ec] at hall ⊢
    have hok := hall v (by simp)
    have er : resG st v = giveC st v := by unfold resG; split <;> first | exact absurd rfl (hne _) | rfl
    obtain ⟨g1, g2⟩ := give_good h hw hcl hR hok
    have n1 : (∀ cs, giveC st v ≠ .agg cs) ∧ ∀ vs, giveC st v ≠ .tup vs := by
      by_cases ho : ∃ s rows, giveC st v = .own s rows
      · obtain ⟨s, rows, ho⟩ := ho
        rw [ho]
        exact ⟨fun _ e => (by cases e), fun _ e => (by cases e)⟩
      · obtain ⟨_, _, q1, q2⟩ := okGood_other hok fun s rows e => ho ⟨s, rows, e⟩
        exact ⟨q2, q1⟩
    rw [er]
    refine ⟨by rw [RB2_other n1.1]; exact g1, n1.2, ?_⟩
    rw [owns2_other n1.1]
    simpa using g2

theorem pack_good {B : Ctx} : ∀ (l : List V) (us : List Value), l.length = us.length → (∀ (i : Nat) v, l[i]? = some v → RB2 B v (us.getD i undef) ∧ ∀ vs, v ≠ .tup vs) →
    RB B (pack l) (if us.length = 1 then us.getD 0 undef else .tuple us.toArray) ∧ ownsR (pack l) (if us.length = 1 then us.getD 0 undef else .tuple us.toArray) = ownsT2 l us := by
  intro l us hl h
  by_cases h1 : us.length = 1
  · obtain ⟨u, rfl⟩ := List.length_eq_one_iff.1 h1
    obtain ⟨v, rfl⟩ := List.length_eq_one_iff.1 (hl.trans h1)
    obtain ⟨q1, q2⟩ := h 0 v rfl
    simp only [List.length_singleton, if_true, List.getD_cons_zero, pack] at q1 ⊢
    have e1 : RB B v u = RB2 B v u := by unfold RB; split <;> first | exact absurd rfl (q2 _) | rfl
    have e2 : ownsR v u = owns2 v u := by unfold ownsR; split <;> first | exact absurd rfl (q2 _) | rfl
    rw [e1, e2]
    exact ⟨q1, by simp [ownsT2]⟩
  · rw [if_neg h1]
    have e : pack l = .tup l := by
      cases l with
      | nil => rfl
      | cons v l => cases l with
        | nil => simp at hl; omega
        | cons _ _ => rfl
    rw [e]
    exact ⟨⟨us, rfl, hl, fun j c hj => (h j c hj).1⟩, by simp [ownsR]⟩

theorem ownsT2_sub : ∀ (vs : List V) (us : List Value) (f : V → V) (g : V → List Nat), vs.length = us.length → (∀ (i : Nat) v, vs[i]? = some v → (owns2 (f v) (us.getD i undef)).Sublist ((g v).filterMap (blkOf C))) →
    (ownsT2 (vs.map f) us).Sublist ((vs.flatMap g).filterMap (blkOf C))
  | [], [], _, _, _, _ => by simp [ownsT2]
  | [], _ :: _, _, _, h, _ => by simp at h
  | _ :: _, [], _, _, h, _ => by simp at h
  | v :: vs, u :: us, f, g, h, hr => by
    simp only [List.map_cons, ownsT2, List.flatMap_cons, List.filterMap_append]
    exact List.Sublist.append (by simpa using hr 0 v rfl) (ownsT2_sub vs us f g (by simpa using h) fun i v hi => by simpa using hr (i + 1) v (by simpa using hi))

/-- What is handed back in variables. -/
structure Outs (C B : Ctx) (st : St) (i : Nat) (l : List V) (us : List Value) : Prop where
  len : (outL st i l).length = l.length
  r : ∀ (j : Nat) o, (outL st i l)[j]? = some o → RA B o (us.getD j undef)
  box : listA boxA (outL st i l) us = listA boxA l us
  rng : ∀ b off, anyC (outL st i l) us b off ↔ anyC l us b off
  owns : (listA (ownsA C.w) (outL st i l) us).Sublist ((outCat (outNames st) i l).filterMap (blkOf C))
  boxes : (listA boxA l us).Sublist ((outCat (outBox st) i l).filterMap (blkOf C))
  live : ∀ r ∈ outCat (outNames st) i l, ∃ s rs, st.heap r = .rows s rs
  liveB : ∀ r ∈ outCat (outBox st) i l, ∃ cs, st.heap r = .box cs

theorem outs_sound (h : Inv E n C st a) {B : Ctx} (hw : B.w = C.w) (hcl : ∀ c u, R C c u → c.closed = true → R B c u) : ∀ (l : List V) (us : List Value) (i : Nat), l.length = us.length →
    (∀ (j : Nat) cs, l[j]? = some (.io cs) → a.tmps.getD (i + j) undef = us.getD j undef) → outAll (outOk st) i l = true → Outs C B st i l us
  | [], [], i, _, _, _ => ⟨rfl, fun j o hj => by simp [outL] at hj, rfl, fun _ _ => Iff.rfl, by simp [outL, listA], by simp [listA], fun r hr => by simp [outCat] at hr, fun r hr => by simp [outCat] at hr⟩
  | [], _ :: _, _, hl, _, _ => by simp at hl
  | _ :: _, [], _, hl, _, _ => by simp at hl
  | v :: l, u :: us, i, hl, hp, hok => by
    simp only [outAll, Bool.and_eq_true] at hok
    have ih := outs_sound h hw hcl l us (i + 1) (by simpa using hl) (fun j cs hj => by have := hp (j + 1) cs (by simpa using hj); rw [show i + 1 + j = i + (j + 1) by omega]; simpa using this) hok.2
    suffices hd : RA B (outV st i v) u ∧ boxA (outV st i v) u = boxA v u ∧ (∀ b off, boxC (outV st i v) u b off ↔ boxC v u b off) ∧ (ownsA C.w (outV st i v) u).Sublist ((outNames st i v).filterMap (blkOf C)) ∧
        (boxA v u).Sublist ((outBox st i v).filterMap (blkOf C)) ∧ (∀ r ∈ outNames st i v, ∃ s rs, st.heap r = .rows s rs) ∧ (∀ r ∈ outBox st i v, ∃ cs, st.heap r = .box cs) by
      obtain ⟨d1, d2, d3, d4, d5, d6, d7⟩ := hd
      refine ⟨by simp [outL, ih.len], fun j o hj => ?_, by simp only [outL, listA]; rw [d2, ih.box], fun b off => by simp only [outL, anyC]; rw [d3, ih.rng], ?_, ?_, fun r hr => ?_, fun r hr => ?_⟩
      · cases j with
        | zero => simp only [outL, List.getElem?_cons_zero, Option.some.injEq] at hj; subst hj; simpa using d1
        | succ j => simpa using ih.r j o (by simpa [outL] using hj)
      · simp only [outL, listA, outCat, List.filterMap_append]; exact d4.append ih.owns
      · simp only [listA, outCat, List.filterMap_append]; exact d5.append ih.boxes
      · simp only [outCat, List.mem_append] at hr; exact hr.elim (d6 r) (ih.live r)
      · simp only [outCat, List.mem_append] at hr; exact hr.elim (d7 r) (ih.liveB r)
    by_cases hv : ∃ cs, v = .io cs
    · obtain ⟨cs, rfl⟩ := hv
      have hok1 := hok.1
      have hpar := hp 0 cs rfl
      simp only [Nat.add_zero, List.getD_cons_zero] at hpar
      simp only [outOk] at hok1
      have hR := h.env i
      rw [hpar] at hR
      cases he : st.env i with
      | ptr r off =>
        simp only [he] at hok1
        cases off with
        | succ off => simp at hok1
        | zero =>
          simp only at hok1
          cases hh : st.heap r with
          | box cs' =>
            simp only [hh, Bool.and_eq_true, beq_iff_eq, List.all_eq_true] at hok1
            obtain ⟨hlen, hall⟩ := hok1
            rw [he] at hR
            have hC : C.heap r = .box cs' := by rw [h.heap]; exact hh
            cases hR with
            | ptr _ _ cs2 L q1 q2 =>
              rw [hC] at q1; cases q1
              have ho := h.objs r
              unfold ObjOk at ho
              rw [hC] at ho
              obtain ⟨L', hl', ⟨cur, e, g, g2, g3⟩, _⟩ := ho
              rw [q2] at hl'; cases hl'
              have e1 : outV st i (.io cs) = .io (cs'.map (giveC st)) := by simp [outV, he, hh]
              have e2 : outNames st i (.io cs) = cs'.flatMap objC := by simp [outNames, he, hh]
              have e3 : outBox st i (.io cs) = [r] := by simp [outBox, he]
              rw [e1, e2, e3]
              have hg : ∀ (j : Nat) (c : V), cs'[j]? = some c → Given C B (giveC st c) (g j) (objC c) := fun j c hj => give_good h hw (fun c u hr hc _ => hcl c u hr hc) (g3 j c hj).2.2 (hall c (List.mem_of_getElem? hj))
              refine ⟨⟨L.blk, L.base + 0, cur, e, g, rfl, by rw [hw]; exact g2, fun j c hj => ?_⟩, rfl, fun b off => by simp [boxC, hlen], ?_, by simp [boxA, blkOf_some q2], objC_live hall, fun r' hr' => by simp at hr'; subst hr'; exact ⟨cs', hh⟩⟩
              · simp only [List.getElem?_map, Option.map_eq_some_iff] at hj
                obtain ⟨c', h1, rfl⟩ := hj
                exact ⟨(g3 j c' h1).1, (g3 j c' h1).2.1, (hg j c' h1).r⟩
              · show (ownsL (cs'.map (giveC st)) (cellsAt C.w L.blk (L.base + 0) (cs'.map (giveC st)).length)).Sublist _
                refine ownsL_give cs' _ (giveC st) (by rw [cellsAt_len, List.length_map]) fun j c hj => ?_
                have hj' := (List.getElem?_eq_some_iff.1 hj).1
                rw [cellsAt_get _ _ _ _ _ (by simpa using hj'), cell_of_row _ _ _ _ _ _ g2, Nat.add_zero, (g3 j c hj).1]
                exact (hg j c hj).owns
          | _ => simp [hh] at hok1
      | _ => simp [he] at hok1
    · have hne : ∀ cs, v ≠ .io cs := fun cs e => hv ⟨cs, e⟩
      have e1 : outV st i v = .undef := by unfold outV; split <;> first | exact absurd rfl (hne _) | rfl
      have e2 : outNames st i v = [] := by unfold outNames; split <;> first | exact absurd rfl (hne _) | rfl
      have e3 : outBox st i v = [] := by unfold outBox; split <;> first | exact absurd rfl (hne _) | rfl
      rw [e1, e2, e3, boxA_other hne]
      exact ⟨.undef _, by simp [boxA], fun b off => ⟨fun hx => (boxC_other (fun cs e => by cases e) hx).elim, fun hx => (boxC_other hne hx).elim⟩, by simp [ownsA, owns1], by simp, fun r hr => by simp at hr, fun r hr => by simp at hr⟩

end Go.Ab
