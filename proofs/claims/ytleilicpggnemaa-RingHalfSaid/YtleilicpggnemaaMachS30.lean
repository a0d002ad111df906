/-
  Regions in any order: an operation may be done ahead.
-/
import Derived.Test.YtleilicpggnemaaMachS29
namespace Go.Ab
open Go

variable {E : Ent} {n : Sz} {C : Ctx} {st : St} {a : Act} {P : Program}

/-! ### States -/

theorem St.ext' {s t : St} (h1 : ∀ i, s.env i = t.env i) (h2 : ∀ i, s.heap i = t.heap i) : s = t := by
  cases s; cases t; simp only [St.mk.injEq]; exact ⟨funext h1, funext h2⟩

theorem sets_env (st : St) : ∀ l : List (Nat × AO), (st.sets l).env = st.env
  | [] => rfl
  | (r, o) :: l => by rw [St.sets, sets_env]; rfl
theorem sets_heap_not (st : St) : ∀ (l : List (Nat × AO)) (r : Nat), (∀ y ∈ l, y.1 ≠ r) → (st.sets l).heap r = st.heap r
  | [], _, _ => rfl
  | (q, o) :: l, r, h => by
    rw [St.sets, sets_heap_not _ l r fun y hy => h y (by simp [hy])]
    have := h (q, o) (by simp)
    simp only [St.set, upd]
    rw [if_neg fun e => this e.symm]
/-- What the table says of a name it has is the same over any state. -/
theorem sets_heap_in (st st' : St) : ∀ (l : List (Nat × AO)) (r : Nat), (∃ y ∈ l, y.1 = r) → (st.sets l).heap r = (st'.sets l).heap r
  | [], _, ⟨_, h, _⟩ => by simp at h
  | (q, o) :: l, r, h => by
    by_cases hl : ∃ y ∈ l, y.1 = r
    · exact sets_heap_in _ _ l r hl
    · have hl' : ∀ y ∈ l, y.1 ≠ r := fun y hy e => hl ⟨y, hy, e⟩
      obtain ⟨y, hy, e⟩ := h
      rcases List.mem_cons.1 hy with rfl | hy
      · simp only at e; subst e
        simp only [St.sets]
        rw [sets_heap_not _ l q hl', sets_heap_not _ l q hl']
        simp [St.set, upd]
      · exact absurd e (hl' y hy)
theorem sets_heap_live (st : St) (l : List (Nat × AO)) (hl : ∀ y ∈ l, y.2.isDead = false) (r : Nat) (h : ∃ y ∈ l, y.1 = r) : ((st.sets l).heap r).isDead = false := by
  induction l generalizing st with
  | nil => obtain ⟨_, h, _⟩ := h; simp at h
  | cons x l ih =>
    obtain ⟨q, o⟩ := x
    by_cases h' : ∃ y ∈ l, y.1 = r
    · exact ih (st.set q o) (fun y hy => hl y (by simp [hy])) h'
    · have hl' : ∀ y ∈ l, y.1 ≠ r := fun y hy e => h' ⟨y, hy, e⟩
      rw [St.sets, sets_heap_not _ l r hl']
      obtain ⟨y, hy, e⟩ := h
      rcases List.mem_cons.1 hy with rfl | hy
      · simp only at e; subst e
        simpa [St.set, upd] using hl (q, o) (by simp)
      · exact absurd e (hl' y hy)

theorem put_env {st : St} {d : Option Nat} {v : V} {t : Nat} (h : d ≠ some t) : (st.put d v).env t = st.env t := by
  cases d with
  | none => rfl
  | some e => simp only [St.put, upd]; rw [if_neg fun e' => h (by rw [e'])]
theorem put_heap {st : St} {d : Option Nat} {v : V} : (st.put d v).heap = st.heap := by cases d <;> rfl

/-- Effects that don't meet come to the same in either order. -/
theorem effects_comm (st : St) {l m : List (Nat × AO)} {d e : Option Nat} {v w : V} (hlm : ∀ x ∈ l, ∀ y ∈ m, x.1 ≠ y.1) (hde : ∀ t, d = some t → e ≠ some t) :
    ((((st.sets l).put d v).sets m).put e w) = ((((st.sets m).put e w).sets l).put d v) := by
  refine St.ext' (fun i => ?_) (fun i => ?_)
  · by_cases h1 : d = some i
    · have h2 := hde i h1
      rw [put_env h2, sets_env]
      subst h1
      simp [St.put, upd]
    · rw [put_env (d := d) h1, sets_env]
      by_cases he : e = some i
      · subst he; simp [St.put, upd]
      · rw [put_env he, put_env he, sets_env, put_env h1, sets_env, sets_env]
  · rw [put_heap, put_heap]
    by_cases hm : ∃ y ∈ m, y.1 = i
    · have hl : ∀ x ∈ l, x.1 ≠ i := fun x hx ex => by
        obtain ⟨y, hy, ey⟩ := hm
        exact hlm x hx y hy (ex.trans ey.symm)
      rw [sets_heap_not _ l i hl, put_heap]
      exact sets_heap_in _ _ m i hm
    · have hm' : ∀ y ∈ m, y.1 ≠ i := fun y hy e => hm ⟨y, hy, e⟩
      rw [sets_heap_not _ m i hm', put_heap]
      by_cases hl : ∃ x ∈ l, x.1 = i
      · exact sets_heap_in _ _ l i hl
      · have hl' : ∀ y ∈ l, y.1 ≠ i := fun y hy e => hl ⟨y, hy, e⟩
        rw [sets_heap_not _ l i hl', sets_heap_not _ l i hl', put_heap, sets_heap_not _ m i hm']

/-! ### Operations behind guards -/

/-- What looks at the same does the same. -/
structure SameG (cls : Nat) (o : Op') (st st' : St) : Prop where
  looks : ∀ t ∈ o.looks, st'.env t = st.env t
  heap : cls = 1 → ∀ x ∈ o.op.xs, ∀ r, Reach st (x.ev st) r → (st.heap r).isDead = false → st'.heap r = st.heap r
  all : cls = 2 → st'.heap = st.heap

theorem ev_same {o : Op'} {st st' : St} (h : ∀ t ∈ o.looks, st'.env t = st.env t) : ∀ x ∈ o.op.xs, x.ev st' = x.ev st := by
  intro x hx
  cases x with
  | t k => exact h k (by simp only [Op'.looks, List.mem_append, List.mem_flatMap]; exact .inl ⟨_, hx, by simp [X.tmps]⟩)
  | k v => rfl

/-- What an operation does, of class 0, 1 or 2. -/
structure Does (P : Program) (cls : Nat) (o : Op') (st : St) (v : V) (news : List (Nat × AO)) : Prop where
  pure : cls = 0 → news = []
  quiet : cls = 1 → (∀ y ∈ news, y.1 ∈ o.op.names ∧ y.2.isDead = false) ∧ ∀ r ∈ news.map (·.1), (st.heap r).isDead = true
  again : ∀ st' : St, SameG cls o st st' → (cls = 1 → ∀ r ∈ news.map (·.1), (st'.heap r).isDead = true → True) → (cls = 1 → ∀ r ∈ o.op.names, (st.heap r).isDead = true → (st'.heap r).isDead = true) →
    ∀ K' : St → Prop, K' ((st'.sets news).put o.dst v) → effG P o st' K'

theorem effG_does {cls : Nat} (hc : cls = 0 ∨ cls = 1 ∨ cls = 2) {o : Op'} (hok : okClass o.op cls = true) (hq : cls = 1 → quiet o st) {K : St → Prop} (h : effG P o st K) :
    ∃ v news, K ((st.sets news).put o.dst v) ∧ Does P cls o st v news := by
  -- without the guard
  have body : eff P o.op o.dst st K → ∃ v news, K ((st.sets news).put o.dst v) ∧ (cls = 0 → news = []) ∧ (cls = 1 → (∀ y ∈ news, y.1 ∈ o.op.names ∧ y.2.isDead = false) ∧ ∀ r ∈ news.map (·.1), (st.heap r).isDead = true) ∧
      ∀ st' : St, SameG cls o st st' → (cls = 1 → ∀ r ∈ o.op.names, (st.heap r).isDead = true → (st'.heap r).isDead = true) → ∀ K' : St → Prop, K' ((st'.sets news).put o.dst v) → eff P o.op o.dst st' K' := by
    intro h
    rcases hc with rfl | rfl | rfl
    · obtain ⟨v, h1, h2⟩ := eff_pure hok h
      exact ⟨v, [], h1, fun _ => rfl, fun e => by simp at e, fun st' hs _ K' hk => h2 st' (ev_same hs.looks) K' hk⟩
    · obtain ⟨v, news, h1, h2, h3, h4⟩ := eff_quiet (hq rfl) h
      refine ⟨v, news, h1, fun e => by simp at e, fun _ => ⟨h2, fun r hr => ?_⟩, fun st' hs hd K' hk => h4 st' ⟨ev_same hs.looks, hs.heap rfl⟩ (fun r hr => hd rfl r hr (h3 r hr)) K' hk⟩
      obtain ⟨y, hy, rfl⟩ := List.mem_map.1 hr
      exact h3 _ (h2 y hy).1
    · obtain ⟨r, o', h1, h2⟩ := eff_store hok h
      exact ⟨.undef, [(r, o')], h1, fun e => by simp at e, fun e => by simp at e, fun st' hs _ K' hk => h2 st' (ev_same hs.looks) (hs.all rfl) K' hk⟩
  unfold effG at h
  split at h
  · rename_i hg
    obtain ⟨v, news, h1, h2, h3, h4⟩ := body h
    refine ⟨v, news, h1, h2, h3, fun st' hs _ hd K' hk => ?_⟩
    unfold effG
    rw [hg]
    exact h4 st' hs hd K' hk
  · rename_i t w hg
    have hlook : t ∈ o.looks := by simp [Op'.looks, hg]
    split at h
    · rename_i b hb
      by_cases hbw : b = w
      · subst hbw
        have h' := h.1 rfl
        rw [put_self hb] at h'
        obtain ⟨v, news, h1, h2, h3, h4⟩ := body h'
        refine ⟨v, news, h1, h2, h3, fun st' hs _ hd K' hk => ?_⟩
        unfold effG
        have hb' : st'.env t = .bool b := (hs.looks t hlook).trans hb
        rw [hg]
        dsimp only
        rw [hb']
        refine ⟨fun _ => ?_, fun e => by cases b <;> simp at e⟩
        rw [put_self hb']
        exact h4 st' hs hd K' hk
      · have hnb : b = !w := by cases b <;> cases w <;> simp_all
        have h' := h.2 hnb
        rw [put_self (by rw [hb, hnb])] at h'
        refine ⟨.tup [], [], h', fun _ => rfl, fun _ => ⟨by simp, by simp⟩, fun st' hs _ hd K' hk => ?_⟩
        unfold effG
        have hb' : st'.env t = .bool b := (hs.looks t hlook).trans hb
        rw [hg]
        dsimp only
        rw [hb']
        refine ⟨fun e => absurd e hbw, fun _ => ?_⟩
        rw [put_self (by rw [hb', hnb])]
        exact hk
    · rename_i hb
      refine ⟨.tup [], [], h, fun _ => rfl, fun _ => ⟨by simp, by simp⟩, fun st' hs _ hd K' hk => ?_⟩
      unfold effG
      have hb' : st'.env t = .tup [] := (hs.looks t hlook).trans hb
      rw [hg]
      dsimp only
      rw [hb']
      exact hk
    · exact h.elim

end Go.Ab
