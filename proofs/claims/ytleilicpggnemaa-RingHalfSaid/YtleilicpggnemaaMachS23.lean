/-
  What a function does, from what its text comes to.
-/
import Derived.Test.YtleilicpggnemaaMachS22
namespace Go.Ab
open Go

variable {E : Ent} {n : Sz} {C : Ctx} {st : St} {a : Act} {P : Program}

theorem okRVs_get : ∀ {l : List RV} {m : List ResultVar}, okRVs P l m = true → l.length = m.length ∧ ∀ (i : Nat) (r : RV), l[i]? = some r → ∃ x, m[i]? = some x ∧ okRV P r x = true
  | [], [], _ => ⟨rfl, fun i r hi => by simp at hi⟩
  | [], _ :: _, h => by simp [okRVs] at h
  | _ :: _, [], h => by simp [okRVs] at h
  | x :: l, y :: m, h => by
    simp only [okRVs, Bool.and_eq_true] at h
    obtain ⟨h1, h2⟩ := okRVs_get h.2
    refine ⟨by simp [h1], fun i r hi => ?_⟩
    cases i with
    | zero => simp at hi; subst hi; exact ⟨y, rfl, h.1⟩
    | succ i => simpa using h2 i r (by simpa using hi)

/-- A result variable's value. -/
def rvRun (P : Program) (tmps : Array Value) (w : World) (x : ResultVar) (u : Value) : Prop :=
  (match x with
    | .tmp t => (pure (tmps.getD t undef) : Sem Value)
    | .cell a t => do loadVar t (← asAddr (tmps.getD a undef))).run P w = .ok u w

theorem rv_run (h : Inv E n C st a) {r : RV} {x : ResultVar} (hok : okRV P r x = true) (hv : (r.ev st).notTup = true) : ∃ u, rvRun P a.tmps C.w x u ∧ R C (r.ev st) u := by
  unfold okRV at hok
  split at hok
  · rename_i k m
    simp only [beq_iff_eq] at hok
    subst hok
    exact ⟨_, rfl, h.env k⟩
  · rename_i agg k m ad t
    simp only [Bool.and_eq_true, beq_iff_eq] at hok
    obtain ⟨⟨⟨rfl, hs⟩, hr⟩, ha⟩ := hok
    have hR := h.env m
    simp only [RV.ev] at hv ⊢
    cases he : st.env m with
    | ptr r off =>
      rw [he] at hR
      simp only [he] at hv ⊢
      cases hh : st.heap r with
      | box cs =>
        simp only [hh] at hv ⊢
        by_cases hl : off + k ≤ cs.length
        · simp only [hl, if_true] at hv ⊢
          generalize hu : a.tmps.getD m undef = u at hR
          cases hR with
          | ptr _ _ cs' L q1 q2 =>
            have hC : C.heap r = .box cs := by rw [h.heap]; exact hh
            rw [hC] at q1; cases q1
            have ho := h.objs r
            unfold ObjOk at ho
            rw [hC] at ho
            obtain ⟨L', hl', ⟨cur, e, g, g2, g3⟩, _⟩ := ho
            rw [q2] at hl'; cases hl'
            have hview : View C L.blk (L.base + off) ((cs.drop off).take k) := by
              refine view_of hl (fun j => g j) fun j c hj => ?_
              obtain ⟨a1, a2, a3⟩ := g3 j c hj
              exact ⟨by rw [cell_of_row _ _ _ _ _ _ g2]; exact a1, a2, a3⟩
            obtain ⟨u, h1, h2⟩ := run_loadAt hs hr ha (by simp; omega) hview
            refine ⟨u, ?_, ?_⟩
            · unfold rvRun
              simp only [hu]
              simpa [Instr.loadAt, Instr.sureAddr, asAddr] using h1
            · cases agg with
              | true => simpa [pickc] using h2
              | false =>
                have hk : k = 1 := by simpa using ha
                subst hk
                have : ((cs.drop off).take 1).getD 0 .undef = cs.getD off .undef := by
                  simp [List.getD, List.getElem?_take, List.getElem?_drop]
                simp only [Bool.false_eq_true, if_false] at h2
                rw [this] at h2
                simpa [pickc] using h2
        · simp [hl, V.notTup] at hv
      | _ => simp [hh, V.notTup] at hv
    | _ => simp [he, V.notTup] at hv
  · cases hok

theorem run_mapM_at {β : Type} {w : World} (z : Value) (f : β → Sem Value) : ∀ (l : List β) (us : List Value), l.length = us.length → (∀ (i : Nat) x, l[i]? = some x → (f x).run P w = .ok (us.getD i z) w) → (l.mapM f).run P w = .ok us w
  | [], [], _, _ => by simp
  | [], _ :: _, h, _ => by simp at h
  | _ :: _, [], h, _ => by simp at h
  | x :: l, u :: us, h, hr => by
    have h1 : (f x).run P w = .ok u w := by simpa using hr 0 x rfl
    have h2 := run_mapM_at z f l us (by simpa using h) (fun i x hi => by simpa using hr (i + 1) x (by simpa using hi))
    rw [List.mapM_cons, Sem.run_bind, h1]
    show Sem.run P _ w = _
    rw [Sem.run_bind, h2]
    rfl

theorem run_results' {fn : Func} {tmps : Array Value} {w : World} {us : List Value} (hl : fn.results.toList.length = us.length) (hr : ∀ (i : Nat) x, fn.results.toList[i]? = some x → rvRun P tmps w x (us.getD i undef)) :
    (results fn tmps).run P w = .ok (if us.length = 1 then us.getD 0 undef else .tuple us.toArray) w := by
  unfold results
  rw [Sem.run_bind, ← Array.toArray_toList (xs := fn.results), List.mapM_toArray, Sem.run_map, run_mapM_at undef _ fn.results.toList us hl (fun i x hi => by
    have := hr i x hi
    unfold rvRun at this
    cases x <;> exact this)]
  show Sem.run P (pure _) w = _
  by_cases h : us.length = 1
  · obtain ⟨u, rfl⟩ := List.length_eq_one_iff.1 h
    rfl
  · simp [h]

end Go.Ab
