/-
  What a callee reads through its arguments.
-/
import Derived.Test.YtleilicpggnemaaMachS12
namespace Go.Ab
open Go

variable {E : Ent} {n : Sz} {C : Ctx} {st : St} {a : Act} {P : Program}

theorem shL_get : ∀ (l : List V) (j : Nat), (V.shL l)[j]? = (l[j]?).map V.sh
  | [], j => by simp [V.shL]
  | v :: l, 0 => by simp [V.shL]
  | v :: l, j + 1 => by simp [V.shL, shL_get l j]
theorem shL_len (l : List V) : (V.shL l).length = l.length := by
  induction l with
  | nil => rfl
  | cons v l ih => simp [V.shL, ih]
theorem shR_get : ∀ (l : List (List V)) (j : Nat), (V.shR l)[j]? = (l[j]?).map V.shL
  | [], j => by simp [V.shR]
  | v :: l, 0 => by simp [V.shR]
  | v :: l, j + 1 => by simp [V.shR, shR_get l j]
theorem shR_len (l : List (List V)) : (V.shR l).length = l.length := by
  induction l with
  | nil => rfl
  | cons v l ih => simp [V.shR, ih]
theorem at2_sh {rows : List (List V)} {i j : Nat} {c : V} (h : at2 (V.shR rows) i j = some c) : ∃ c', at2 rows i j = some c' ∧ c = c'.sh := by
  unfold at2 at h ⊢
  rw [shR_get] at h
  cases hr : rows[i]? with
  | none => simp [hr] at h
  | some r =>
    simp only [hr, Option.map_some, Option.bind_some, shL_get, Option.map_eq_some_iff] at h
    obtain ⟨c', h1, rfl⟩ := h
    exact ⟨c', by simpa using h1, rfl⟩

mutual
theorem closed_sh : ∀ v : V, v.closed = true → v.sh.closed = true
  | .undef, h => by simp [V.closed] at h
  | .bool _, _ | .int _ _, _ | .str _, _ | .nilp, _ | .nilf, _ | .nils _, _ => by simp [V.sh, V.closed]
  | .ptr _ _, h => by simp [V.closed] at h
  | .rptr _ _ _, h => by simp [V.closed] at h
  | .sref _ _ _, h => by simp [V.closed] at h
  | .sl _ _ _, _ => by simp [V.sh, V.closed]
  | .cp cs _, h => by simp only [V.closed] at h; simp only [V.sh, V.closed]; exact closedL_sh cs h
  | .agg cs, h => by simp only [V.closed] at h; simp only [V.sh, V.closed]; exact closedL_sh cs h
  | .tup cs, h => by simp only [V.closed] at h; simp only [V.sh, V.closed]; exact closedL_sh cs h
  | .fn _ a b, h => by
    simp only [V.closed, Bool.and_eq_true] at h
    simp only [V.sh, V.closed, Bool.and_eq_true]
    exact ⟨closedL_sh a h.1, closedL_sh b h.2⟩
  | .mp _, h => by simp [V.closed] at h
  | .own _ _, h => by simp [V.closed] at h
  | .io _, h => by simp [V.closed] at h
theorem closedL_sh : ∀ l : List V, V.closedL l = true → V.closedL (V.shL l) = true
  | [], _ => rfl
  | v :: l, h => by
    simp only [V.closedL, Bool.and_eq_true] at h
    simp only [V.shL, V.closedL, Bool.and_eq_true]
    exact ⟨closed_sh v h.1, closedL_sh l h.2⟩
end

mutual
theorem closed_of_sh : ∀ v : V, v.sh.closed = true → v.closed = true
  | .undef, h => by simp [V.sh, V.closed] at h
  | .bool _, _ | .int _ _, _ | .str _, _ | .nilp, _ | .nilf, _ | .nils _, _ => by simp [V.closed]
  | .ptr _ _, h => by simp [V.sh, V.closed] at h
  | .rptr _ _ _, h => by simp [V.sh, V.closed] at h
  | .sref _ _ _, h => by simp [V.sh, V.closed] at h
  | .sl _ _ _, _ => by simp [V.closed]
  | .cp cs _, h => by simp only [V.sh, V.closed] at h ⊢; exact closedL_of_sh cs h
  | .agg cs, h => by simp only [V.sh, V.closed] at h ⊢; exact closedL_of_sh cs h
  | .tup cs, h => by simp only [V.sh, V.closed] at h ⊢; exact closedL_of_sh cs h
  | .fn _ a b, h => by
    simp only [V.sh, V.closed, Bool.and_eq_true] at h ⊢
    exact ⟨closedL_of_sh a h.1, closedL_of_sh b h.2⟩
  | .mp _, h => by simp [V.sh, V.closed] at h
  | .own _ _, h => by simp [V.sh, V.closed] at h
  | .io _, h => by simp [V.sh, V.closed] at h
theorem closedL_of_sh : ∀ l : List V, V.closedL (V.shL l) = true → V.closedL l = true
  | [], _ => rfl
  | v :: l, h => by
    simp only [V.shL, V.closedL, Bool.and_eq_true] at h ⊢
    exact ⟨closed_of_sh v h.1, closedL_of_sh l h.2⟩
end

theorem mapR {cs : List V} {us : List Value} {f : V → V} (hl : cs.length = us.length) (h : ∀ (j : Nat) (c : V), cs[j]? = some c → R C (f c) (us.getD j undef)) :
    (cs.map f).length = us.length ∧ ∀ (j : Nat) (c : V), (cs.map f)[j]? = some c → R C c (us.getD j undef) := by
  refine ⟨by simpa using hl, fun j c hj => ?_⟩
  simp only [List.getElem?_map, Option.map_eq_some_iff] at hj
  obtain ⟨c', h1, rfl⟩ := hj
  exact h j c' h1

theorem shL_eq (l : List V) : V.shL l = l.map V.sh := by
  induction l with
  | nil => rfl
  | cons v l ih => simp [V.shL, ih]

theorem R_shG {v : V} {u : Value} (h : R C v u) (G' : Nat → Prop) : R { C with G := G' } v.sh u := by
  induction h with
  | undef u => exact .undef u
  | bool b => exact .bool b
  | int k m => exact .int k m
  | str s => exact .str s
  | nilp => exact .nilp
  | nilf => exact .nilf
  | ptr r off cs L h hl => exact .ptr r off cs L h hl
  | rptr r i off s rs L h hl hi => exact .rptr r i off s rs L h hl hi
  | sref r i m s rs L h hl hi => exact .sref r i m s rs L h hl hi
  | srefNil r s h hl => exact .srefNil r s h hl
  | srefZ r i s rs b off h hi => exact .srefZ r i s rs b off h hi
  | nils s => exact .nils s
  | nilsSome s b off => exact .nilsSome s b off
  | slNil fr s => exact .slNil false s
  | sl fr s rows b base cap g hc hm hu hfr hcell hcl hr ih =>
    simp only [V.sh]
    rw [← shR_len rows]
    refine .sl false s _ b base cap g (by rw [shR_len]; exact hc) hm (fun r hr' => ?_) (by simp) (fun i j c hij => ?_) (fun i j c hij => ?_) (fun i j c hij => ?_)
    · obtain ⟨i, hi⟩ := List.getElem?_of_mem hr'
      rw [shR_get, Option.map_eq_some_iff] at hi
      obtain ⟨r', h1, rfl⟩ := hi
      rw [shL_len]; exact hu r' (List.mem_of_getElem? h1)
    · obtain ⟨c', h1, rfl⟩ := at2_sh hij; exact hcell i j c' h1
    · obtain ⟨c', h1, rfl⟩ := at2_sh hij; exact closed_sh _ (hcl i j c' h1)
    · obtain ⟨c', h1, rfl⟩ := at2_sh hij; exact ih i j c' h1
  | cp cs off b base g hcell hcl hr ih =>
    simp only [V.sh]
    refine .cp _ off b base g (fun j c hj => ?_) (fun j c hj => ?_) (fun j c hj => ?_)
    all_goals
      rw [shL_get, Option.map_eq_some_iff] at hj
      obtain ⟨c', h1, rfl⟩ := hj
    · exact hcell j c' h1
    · exact closed_sh _ (hcl j c' h1)
    · exact ih j c' h1
  | agg cs us hl h1 hr ih =>
    simp only [V.sh, shL_eq]
    obtain ⟨l, r⟩ := mapR hl ih
    exact .agg _ us l h1 r
  | tup vs us hl hr ih =>
    simp only [V.sh, shL_eq]
    obtain ⟨l, r⟩ := mapR hl ih
    exact .tup _ us l r
  | fn f first caps us ws hl hl' hr hr' ih ih' =>
    simp only [V.sh, shL_eq]
    obtain ⟨l, r⟩ := mapR hl ih
    obtain ⟨l', r'⟩ := mapR hl' ih'
    exact .fn f _ _ us ws l l' r r'

theorem R_sh {v : V} {u : Value} (h : R C v u) : R C v.sh u := R_shG h C.G

theorem RB1_shG {v : V} {u : Value} (h : RB1 C v u) (G' : Nat → Prop) : RB1 { C with G := G' } v.sh u := by
  by_cases hv : ∃ s rows, v = .own s rows
  · obtain ⟨s, rows, rfl⟩ := hv
    rw [RB1_own] at h
    simp only [V.sh]
    rw [RB1_own]
    rw [OwnR_iff] at h ⊢
    rcases h with ⟨rfl, hu⟩ | ⟨b, cap, h1, h2, h3, h4, h5, cur, e, g, h6, h7, h8⟩
    · exact .inl ⟨rfl, hu⟩
    · refine .inr ⟨b, cap, by rw [shR_len]; exact h1, h2, by rw [shR_len]; exact h3, h4, fun r hr => ?_, cur, e, g, h6, h7, fun i j c hij => ?_⟩
      · obtain ⟨i, hi⟩ := List.getElem?_of_mem hr
        rw [shR_get, Option.map_eq_some_iff] at hi
        obtain ⟨r', q1, rfl⟩ := hi
        rw [shL_len]; exact h5 r' (List.mem_of_getElem? q1)
      · obtain ⟨c', q1, rfl⟩ := at2_sh hij
        obtain ⟨a1, a2, a3, a4⟩ := h8 i j c' q1
        exact ⟨a1, a2, closed_sh _ a3, R_shG a4 G'⟩
  · have hne : ∀ s rows, v ≠ .own s rows := fun s rows e => hv ⟨s, rows, e⟩
    rw [RB1_other hne] at h
    have : ∀ s rows, v.sh ≠ .own s rows := fun s rows e => by
      cases v <;> simp only [V.sh] at e <;> first | exact hne _ _ rfl | cases e
    rw [RB1_other this]
    exact R_shG h G'

theorem owns1_sh {v : V} {u : Value} : owns1 v.sh u = owns1 v u := by
  cases v with
  | own s rows => cases u with
    | slice a l c => cases a <;> simp [V.sh, owns1]
    | _ => simp [V.sh, owns1]
  | _ => simp [V.sh, owns1]

/-- The cells that a callee finds frozen: those that are, and all of the objects that live. -/
def Lent (C : Ctx) (b off : Nat) : Prop := C.F b off ∨ ∃ r L, C.loc r = some L ∧ (C.heap r).isDead = false ∧ L.blk = b

theorem lent_closed {v : V} {u : Value} (h : R C v u) (hv : v.closed = true) : R (bare C.w (Lent C) C.G) v u :=
  R.of_closed (C' := bare C.w (Lent C) C.G) (fun _ _ hf => ⟨Or.inl hf, rfl⟩) (fun _ h => h) h hv

theorem frz_sound (h : Inv E n C st a) : ∀ (k : Nat) (v : V) (u : Value), R C v u → (frz st k v).closed = true → R (bare C.w (Lent C) C.G) (frz st k v) u
  | 0, v, u, hR, hc => by
    have e : frz st 0 v = v := by unfold frz; cases v <;> rfl
    rw [e] at hc ⊢
    exact lent_closed hR hc
  | k + 1, v, u, hR, hc => by
    have ih := frz_sound h k
    have other : frz st (k + 1) v = v → R (bare C.w (Lent C) C.G) (frz st (k + 1) v) u := fun e => by
      rw [e] at hc ⊢; exact lent_closed hR hc
    cases hR with
    | undef | bool | int | str | nilp | nilf | slNil | sl | cp => exact other rfl
    | ptr r off cs L g1 g2 =>
      have hh : st.heap r = .box cs := by rw [← h.heap]; exact g1
      have ho := h.objs r
      unfold ObjOk at ho
      rw [g1] at ho
      obtain ⟨L', hl', ⟨cur, e, g, hb, hcell⟩, _⟩ := ho
      rw [g2] at hl'; cases hl'
      simp only [frz, hh] at hc ⊢
      simp only [V.closed] at hc
      refine .cp _ off L.blk L.base g (fun j c hj => ?_) (fun j c hj => closedL_all hc j c hj) (fun j c hj => ?_)
      all_goals
        have hcl := closedL_all hc j c hj
        simp only [List.getElem?_map, Option.map_eq_some_iff] at hj
        obtain ⟨c', h1, rfl⟩ := hj
        obtain ⟨a1, a2, a3⟩ := hcell j c' h1
      · exact ⟨by rw [show (bare C.w (Lent C) C.G).w = C.w from rfl, cell_of_row _ _ _ _ _ _ hb]; exact a1, .inr ⟨r, L, g2, by rw [g1]; rfl, rfl⟩, a2⟩
      · exact ih c' _ a3 hcl
    | rptr r i off s rs L g1 g2 g3 =>
      have hh : st.heap r = .rows s rs := by rw [← h.heap]; exact g1
      have ho := h.objs r
      unfold ObjOk at ho
      rw [g1] at ho
      rcases ho with ⟨_, ho⟩ | ⟨L', hl', q0, q1, q2, q3, ⟨cur, e, g, hb, hcs, hcell⟩, _⟩
      · rw [g2] at ho; cases ho
      rw [g2] at hl'; cases hl'
      simp only [frz, hh]
      refine .cp _ off L.blk (i * s) (g i) (fun j c hj => ?_) (fun j c hj => ?_) (fun j c hj => ?_)
      all_goals obtain ⟨a1, a2, a3, a4⟩ := hcell i j c (at2_some g3 hj)
      · exact ⟨by rw [show (bare C.w (Lent C) C.G).w = C.w from rfl, cell_of_row _ _ _ _ _ _ hb]; exact a1, .inr ⟨r, L, g2, by rw [g1]; rfl, rfl⟩, a2⟩
      · exact a3
      · exact lent_closed a4 a3
    | sref r i m s rs L g1 g2 g3 =>
      have hh : st.heap r = .rows s rs := by rw [← h.heap]; exact g1
      have ho := h.objs r
      unfold ObjOk at ho
      rw [g1] at ho
      rcases ho with ⟨_, ho⟩ | ⟨L', hl', q0, q1, q2, q3, ⟨cur, e, g, hb, hcs, hcell⟩, _⟩
      · rw [g2] at ho; cases ho
      rw [g2] at hl'; cases hl'
      simp only [frz, hh]
      have hlen : ((rs.drop i).take m).length = m := by simp; omega
      have := R.sl (C := bare C.w (Lent C) C.G) false s ((rs.drop i).take m) L.blk (i * s) (L.cap - i) (fun i' j => g (i + i') j) (by omega) (by omega) (fun r' hr' => q3 r' (List.drop_subset _ _ (List.take_subset _ _ hr'))) (by simp)
        (fun i' j c hij => by
          obtain ⟨h1, _⟩ := at2_seg hij
          obtain ⟨a1, a2, a3, a4⟩ := hcell _ _ _ h1
          refine ⟨?_, .inr ⟨r, L, g2, by rw [g1]; rfl, rfl⟩, a2⟩
          rw [show (bare C.w (Lent C) C.G).w = C.w from rfl, cell_of_row _ _ _ _ _ _ hb, ← a1, Nat.add_mul])
        (fun i' j c hij => (hcell _ _ _ (at2_seg hij).1).2.2.1)
        (fun i' j c hij => lent_closed (hcell _ _ _ (at2_seg hij).1).2.2.2 (hcell _ _ _ (at2_seg hij).1).2.2.1)
      rw [hlen] at this
      exact this
    | srefNil r s g1 g2 =>
      have hh : st.heap r = .rows s [] := by rw [← h.heap]; exact g1
      simp only [frz, hh]
      exact .slNil false s
    | srefZ r i s rs b off g1 g2 =>
      have hh : st.heap r = .rows s rs := by rw [← h.heap]; exact g1
      simp only [frz, hh, List.take_zero]
      exact .sl false s [] b off 0 (fun _ _ => undef) (by simp) (by simp [maxLen]) (by simp) (by simp) (fun i j c hij => by simp [at2] at hij) (fun i j c hij => by simp [at2] at hij) (fun i j c hij => by simp [at2] at hij)
    | nils s => simp only [frz]; exact .slNil false s
    | nilsSome s b off =>
      simp only [frz]
      exact .sl false s [] b off 0 (fun _ _ => undef) (by simp) (by simp [maxLen]) (by simp) (by simp) (fun i j c hij => by simp [at2] at hij) (fun i j c hij => by simp [at2] at hij) (fun i j c hij => by simp [at2] at hij)
    | agg cs us hl h1 hr =>
      simp only [frz] at hc ⊢
      simp only [V.closed] at hc
      obtain ⟨l, r⟩ := mapR (C := bare C.w (Lent C) C.G) (f := frz st k) hl (fun j c hj => ih c _ (hr j c hj) (closedL_all hc j _ (by simp [hj])))
      exact .agg _ us l h1 r
    | tup cs us hl hr =>
      simp only [frz] at hc ⊢
      simp only [V.closed] at hc
      obtain ⟨l, r⟩ := mapR (C := bare C.w (Lent C) C.G) (f := frz st k) hl (fun j c hj => ih c _ (hr j c hj) (closedL_all hc j _ (by simp [hj])))
      exact .tup _ us l r
    | fn f first caps us ws hl hl' hr hr' =>
      simp only [frz] at hc ⊢
      simp only [V.closed, Bool.and_eq_true] at hc
      obtain ⟨l, r⟩ := mapR (C := bare C.w (Lent C) C.G) (f := frz st k) hl (fun j c hj => ih c _ (hr j c hj) (closedL_all hc.1 j _ (by simp [hj])))
      obtain ⟨l', r'⟩ := mapR (C := bare C.w (Lent C) C.G) (f := frz st k) hl' (fun j c hj => ih c _ (hr' j c hj) (closedL_all hc.2 j _ (by simp [hj])))
      exact .fn f _ _ us ws l l' r r'

end Go.Ab
