/-
  Regions in any order: what an operation looks at.
-/
import Derived.Test.YtleilicpggnemaaMachS20
namespace Go.Ab
open Go

variable {E : Ent} {n : Sz} {C : Ctx} {st : St} {a : Act} {P : Program}

theorem all_congr' {α : Type} {l : List α} {f g : α → Bool} (h : ∀ p ∈ l, f p = g p) : l.all f = l.all g := by
  induction l with
  | nil => rfl
  | cons p l ih => simp only [List.all_cons]; rw [h p (by simp), ih fun q hq => h q (by simp [hq])]

/-- An operation of class 0. -/
theorem eff_pure {q : O} (hq : isPure q = true) {d : Option Nat} {K : St → Prop} (h : eff P q d st K) :
    ∃ v, K (st.put d v) ∧ ∀ st' : St, (∀ x ∈ q.xs, x.ev st' = x.ev st) → ∀ K' : St → Prop, K' (st'.put d v) → eff P q d st' K' := by
  cases q <;> simp only [isPure, Bool.false_eq_true] at hq
  case mv x =>
    exact ⟨_, h, fun st' hs K' hk => by simp only [eff]; rw [hs x (by simp [O.xs])]; exact hk⟩
  case pick c x y =>
    have key : ∀ st' : St, (∀ z ∈ (O.pick c x y).xs, z.ev st' = z.ev st) → c.ev st' = c.ev st ∧ x.ev st' = x.ev st ∧ y.ev st' = y.ev st := fun st' hs => ⟨hs c (by simp [O.xs]), hs x (by simp [O.xs]), hs y (by simp [O.xs])⟩
    simp only [eff] at h ⊢
    split at h
    · rename_i t b1 b2 h1 h2 h3
      refine ⟨_, h, fun st' hs K' hk => ?_⟩
      obtain ⟨e1, e2, e3⟩ := key st' hs
      rw [e1, e2, e3, h1, h2, h3]; exact hk
    · rename_i t h1 hno
      cases t with
      | true =>
        refine ⟨_, h.1 rfl, fun st' hs K' hk => ?_⟩
        obtain ⟨e1, e2, e3⟩ := key st' hs
        rw [e1, e2, e3, h1]
        split
        · rename_i g2 g3
          exact absurd g3 (hno _ _ g2)
        · rename_i g _
          cases g
          exact ⟨fun _ => hk, fun e => by cases e⟩
        · rename_i g1 g2
          first | exact (g2 _ rfl).elim | exact (g1 _ rfl).elim | simp_all
      | false =>
        refine ⟨_, h.2 rfl, fun st' hs K' hk => ?_⟩
        obtain ⟨e1, e2, e3⟩ := key st' hs
        rw [e1, e2, e3, h1]
        split
        · rename_i g2 g3
          exact absurd g3 (hno _ _ g2)
        · rename_i g _
          cases g
          exact ⟨fun e => (by cases e), fun _ => hk⟩
        · rename_i g1 g2
          first | exact (g2 _ rfl).elim | exact (g1 _ rfl).elim | simp_all
    · exact h.elim
  case build z parts =>
    simp only [eff] at h ⊢
    refine ⟨_, h.2, fun st' hs K' hk => ?_⟩
    have hp : ∀ p ∈ parts, p.2.2.ev st' = p.2.2.ev st := fun p hp => hs _ (by simp only [O.xs, List.mem_map]; exact ⟨p, hp, rfl⟩)
    have e1 : parts.all (fun p => (p.2.2.ev st').val && (p.2.2.ev st').cells.length == p.2.1) = parts.all (fun p => (p.2.2.ev st).val && (p.2.2.ev st).cells.length == p.2.1) := by
      exact all_congr' fun p hpm => by rw [hp p hpm]
    have e2 : ∀ (l : List (Nat × Nat × X)) (z : List V), (∀ p ∈ l, p.2.2.ev st' = p.2.2.ev st) → l.foldl (fun cs p => setR cs p.1 (p.2.2.ev st').cells) z = l.foldl (fun cs p => setR cs p.1 (p.2.2.ev st).cells) z := by
      intro l
      induction l with
      | nil => intro z _; rfl
      | cons p l ih => intro z hl; simp only [List.foldl_cons]; rw [hl p (by simp)]; exact ih _ fun q hq => hl q (by simp [hq])
    rw [e1, e2 parts z hp]
    exact ⟨h.1, hk⟩
  case mkf f first caps =>
    simp only [eff] at h ⊢
    refine ⟨_, h, fun st' hs K' hk => ?_⟩
    have e1 : first.map (·.ev st') = first.map (·.ev st) := List.map_congr_left fun x hx => hs x (by simp [O.xs, hx])
    have e2 : caps.map (·.ev st') = caps.map (·.ev st) := List.map_congr_left fun x hx => hs x (by simp [O.xs, hx])
    rw [e1, e2]; exact hk
  case sslice x lo hi =>
    cases lo <;> cases hi <;>
    · simp only [eff] at h ⊢
      split at h
      · rename_i b k l h1 h2
        first
          | (split at h
             · rename_i k' hh h3
               obtain ⟨q1, q2, q3, q4⟩ := h
               refine ⟨_, q4, fun st' hs K' hk => ?_⟩
               simp only [O.xs, Option.toList, List.append_nil, List.cons_append, List.nil_append, List.mem_cons, List.not_mem_nil, or_false, forall_eq_or_imp, forall_eq] at hs
               simp only [hs, h1, h2, h3]
               exact ⟨q1, q2, q3, hk⟩
             · exact h.elim)
          | (obtain ⟨q1, q2, q3, q4⟩ := h
             refine ⟨_, q4, fun st' hs K' hk => ?_⟩
             simp only [O.xs, Option.toList, List.append_nil, List.cons_append, List.nil_append, List.mem_cons, List.not_mem_nil, or_false, forall_eq_or_imp, forall_eq] at hs
             simp only [hs, h1, h2]
             exact ⟨q1, q2, q3, hk⟩)
      · exact h.elim
  case bin op x y =>
    simp only [eff] at h ⊢
    split at h
    · rename_i k m k' m' h1 h2
      obtain ⟨rfl, hb⟩ := h
      have gen : ∃ v, K (st.put d v) ∧ ∀ K' : V → Prop, K' v → binI op k m m' K' := by
        cases op <;> simp only [binI] at hb ⊢ <;> first | exact ⟨_, hb, fun K' hk => hk⟩ | exact ⟨_, hb.2, fun K' hk => ⟨hb.1, hk⟩⟩ | exact hb.elim
      obtain ⟨v, hv, hg⟩ := gen
      refine ⟨v, hv, fun st' hs K' hk => ?_⟩
      rw [hs x (by simp [O.xs]), hs y (by simp [O.xs]), h1, h2]
      exact ⟨rfl, hg _ hk⟩
    · exact h.elim
  case eqa ng ks x y =>
    simp only [eff] at h ⊢
    split at h
    · rename_i l m h1 h2
      split at h
      · rename_i r h3
        refine ⟨_, h, fun st' hs K' hk => ?_⟩
        rw [hs x (by simp [O.xs]), hs y (by simp [O.xs]), h1, h2]
        dsimp only
        rw [h3]; exact hk
      · exact h.elim
    · exact h.elim
  case max x y =>
    simp only [eff] at h ⊢
    split at h
    · rename_i k m k' m' h1 h2
      obtain ⟨rfl, h⟩ := h
      refine ⟨_, h, fun st' hs K' hk => ?_⟩
      rw [hs x (by simp [O.xs]), hs y (by simp [O.xs]), h1, h2]
      exact ⟨rfl, hk⟩
    · exact h.elim
  case min x y =>
    simp only [eff] at h ⊢
    split at h
    · rename_i k m k' m' h1 h2
      obtain ⟨rfl, h⟩ := h
      refine ⟨_, h, fun st' hs K' hk => ?_⟩
      rw [hs x (by simp [O.xs]), hs y (by simp [O.xs]), h1, h2]
      exact ⟨rfl, hk⟩
    · exact h.elim
  all_goals
    simp only [eff] at h ⊢
    split at h <;> first
      | exact h.elim
      | (refine ⟨_, h, fun st' hs K' hk => ?_⟩
         simp only [O.xs, List.mem_cons, List.not_mem_nil, or_false, forall_eq_or_imp, forall_eq] at hs
         simp only [hs, *]
         done)
      | (obtain ⟨q1, q2⟩ := h
         refine ⟨_, q2, fun st' hs K' hk => ?_⟩
         simp only [O.xs, List.mem_cons, List.not_mem_nil, or_false, forall_eq_or_imp, forall_eq] at hs
         simp only [hs, *, and_self]
         done)
      | (obtain ⟨q1, q2, q3⟩ := h
         refine ⟨_, q3, fun st' hs K' hk => ?_⟩
         simp only [O.xs, List.mem_cons, List.not_mem_nil, or_false, forall_eq_or_imp, forall_eq] at hs
         simp only [hs, *, and_self]
         done)
      | (obtain ⟨q1, q2, q3, q4⟩ := h
         refine ⟨_, q4, fun st' hs K' hk => ?_⟩
         simp only [O.xs, List.mem_cons, List.not_mem_nil, or_false, forall_eq_or_imp, forall_eq] at hs
         simp only [hs, *, and_self]
         done)

end Go.Ab
