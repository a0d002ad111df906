/-
  Regions in any order: each operation of class 1.
-/
import Derived.Test.YtleilicpggnemaaMachS27
namespace Go.Ab
open Go

variable {E : Ent} {n : Sz} {C : Ctx} {st : St} {a : Act} {P : Program}

theorem pure_quiet {q : O} (hq : isPure q = true) {d : Option Nat} {K : St → Prop} (h : eff P q d st K) : QuietAt P q d st K := by
  obtain ⟨v, h1, h2⟩ := eff_pure hq h
  have hn : q.names = [] := by cases q <;> simp_all [isPure, O.names]
  exact ⟨v, [], h1, by simp, by simp [hn], fun st' hs _ K' hk => h2 st' hs.ev K' hk⟩

theorem load_quiet {agg : Bool} {k : Nat} {x : X} {d : Option Nat} {K : St → Prop} (h : eff P (.load agg k x) d st K) : QuietAt P (.load agg k x) d st K := by
  simp only [eff] at h
  split at h
  · rename_i r off hx
    split at h
    · rename_i cs hh
      refine ⟨_, [], h.2, by simp, by simp [O.names], fun st' hs _ K' hk => ?_⟩
      have e := hs.at (x := x) (by simp [O.xs]) hx (r := r) (by simp [V.has]) (by rw [hh]; rfl)
      simp only [eff]
      rw [hs.ev x (by simp [O.xs]), hx]
      dsimp only
      rw [e, hh]
      exact ⟨h.1, hk⟩
    · exact h.elim
  · rename_i r i off hx
    split at h
    · rename_i s rs hh
      refine ⟨_, [], h.2, by simp, by simp [O.names], fun st' hs _ K' hk => ?_⟩
      have e := hs.at (x := x) (by simp [O.xs]) hx (r := r) (by simp [V.has]) (by rw [hh]; rfl)
      simp only [eff]
      rw [hs.ev x (by simp [O.xs]), hx]
      dsimp only
      rw [e, hh]
      exact ⟨h.1, hk⟩
    · exact h.elim
  · rename_i cs off hx
    refine ⟨_, [], h.2, by simp, by simp [O.names], fun st' hs _ K' hk => ?_⟩
    simp only [eff]
    rw [hs.ev x (by simp [O.xs]), hx]
    exact ⟨h.1, hk⟩
  · exact h.elim

theorem loadb_quiet {k : Nat} {x : X} {d : Option Nat} {K : St → Prop} (h : eff P (.loadb k x) d st K) : QuietAt P (.loadb k x) d st K := by
  simp only [eff] at h
  split at h
  · rename_i r off hx
    split at h
    · rename_i cs hh
      refine ⟨_, [], h.2, by simp, by simp [O.names], fun st' hs _ K' hk => ?_⟩
      have e := hs.at (x := x) (by simp [O.xs]) hx (r := r) (by simp [V.has]) (by rw [hh]; rfl)
      simp only [eff]
      rw [hs.ev x (by simp [O.xs]), hx]
      dsimp only
      rw [e, hh]
      exact ⟨h.1, hk⟩
    · exact h.elim
  · exact h.elim

theorem iaddr_quiet {s : Nat} {len : Option Nat} {x i : X} {d : Option Nat} {K : St → Prop} (h : eff P (.iaddr s len x i) d st K) : QuietAt P (.iaddr s len x i) d st K := by
  simp only [eff] at h
  split at h
  · rename_i k m hi
    cases len with
    | none =>
      dsimp only at h
      split at h
      · rename_i f s' rows hx
        obtain ⟨q1, q2, q3, q4⟩ := h
        refine ⟨_, [], q4, by simp, by simp [O.names], fun st' hs _ K' hk => ?_⟩
        simp only [eff]
        rw [hs.ev x (by simp [O.xs]), hs.ev i (by simp [O.xs]), hx, hi]
        exact ⟨q1, q2, q3, hk⟩
      · rename_i r j m' hx
        split at h
        · rename_i s' rs hh
          obtain ⟨q1, q2, q3, q4⟩ := h
          refine ⟨_, [], q4, by simp, by simp [O.names], fun st' hs _ K' hk => ?_⟩
          have e := hs.at (x := x) (by simp [O.xs]) hx (r := r) (by simp [V.has]) (by rw [hh]; rfl)
          simp only [eff]
          rw [hs.ev x (by simp [O.xs]), hs.ev i (by simp [O.xs]), hx, hi]
          dsimp only
          rw [e, hh]
          exact ⟨q1, q2, q3, hk⟩
        · exact h.elim
      · exact h.elim
    | some l =>
      dsimp only at h
      obtain ⟨q1, q2, h⟩ := h
      split at h
      · rename_i r o hx
        refine ⟨_, [], h, by simp, by simp [O.names], fun st' hs _ K' hk => ?_⟩
        simp only [eff]
        rw [hs.ev x (by simp [O.xs]), hs.ev i (by simp [O.xs]), hx, hi]
        exact ⟨q1, q2, hk⟩
      · rename_i r j o hx
        refine ⟨_, [], h, by simp, by simp [O.names], fun st' hs _ K' hk => ?_⟩
        simp only [eff]
        rw [hs.ev x (by simp [O.xs]), hs.ev i (by simp [O.xs]), hx, hi]
        exact ⟨q1, q2, hk⟩
      · rename_i cs o hx
        refine ⟨_, [], h, by simp, by simp [O.names], fun st' hs _ K' hk => ?_⟩
        simp only [eff]
        rw [hs.ev x (by simp [O.xs]), hs.ev i (by simp [O.xs]), hx, hi]
        exact ⟨q1, q2, hk⟩
      · exact h.elim
  · exact h.elim

theorem box_quiet {x : X} {r : Nat} {d : Option Nat} {K : St → Prop} (h : eff P (.box x r) d st K) : QuietAt P (.box x r) d st K := by
  simp only [eff] at h
  obtain ⟨h1, h2, h3⟩ := h
  refine ⟨_, [(r, .box (x.ev st).cells)], h3, by simp [O.names, AO.isDead], by simpa [O.names] using h2, fun st' hs hd K' hk => ?_⟩
  simp only [eff]
  rw [hs.ev x (by simp [O.xs])]
  exact ⟨h1, hd r (by simp [O.names]), hk⟩

theorem alloc_quiet {z : List V} {r : Nat} {objs : List Nat} {d : Option Nat} {K : St → Prop} (h : eff P (.alloc z r objs) d st K) : QuietAt P (.alloc z r objs) d st K := by
  simp only [eff] at h
  obtain ⟨h1, h2, h3⟩ := h
  obtain ⟨t1, t2⟩ := thawL_names z objs
  have e : ∀ st : St, (st.sets ((thawL z objs).2.2 ++ [(r, .box (thawL z objs).1)])) = (st.sets (thawL z objs).2.2).set r (.box (thawL z objs).1) := fun st => by rw [sets_append]; rfl
  refine ⟨.ptr r 0, (thawL z objs).2.2 ++ [(r, .box (thawL z objs).1)], by rw [e]; exact h3, fun y hy => ?_, fun q hq => List.all_eq_true.1 h2 q hq, fun st' hs hd K' hk => ?_⟩
  · rcases List.mem_append.1 hy with hy | hy
    · refine ⟨?_, t2 y hy⟩
      have : y.1 ∈ objs := by rw [← t1]; exact List.mem_append_left _ (List.mem_map_of_mem hy)
      simp [O.names, this]
    · simp at hy; subst hy; simp [O.names, AO.isDead]
  · simp only [eff]
    rw [e] at hk
    exact ⟨h1, List.all_eq_true.2 hd, hk⟩

theorem nil_quiet {s r : Nat} {d : Option Nat} {K : St → Prop} (h : eff P (.nil s r) d st K) : QuietAt P (.nil s r) d st K := by
  simp only [eff] at h
  refine ⟨_, [(r, .rows s [])], h.2, by simp [O.names, AO.isDead], by simpa [O.names] using h.1, fun st' hs hd K' hk => ?_⟩
  simp only [eff]
  exact ⟨hd r (by simp [O.names]), hk⟩

theorem bsl_quiet {s : Nat} {parts : List X} {mode : Option Nat} {d : Option Nat} {K : St → Prop} (h : eff P (.bsl s parts mode) d st K) : QuietAt P (.bsl s parts mode) d st K := by
  cases parts with
  | nil =>
    cases mode with
    | none =>
      simp only [eff] at h
      exact ⟨_, [], h, by simp, by simp [O.names], fun st' hs _ K' hk => by simp only [eff]; exact hk⟩
    | some r =>
      simp only [eff] at h
      refine ⟨_, [(r, .rows s [])], h.2, by simp [O.names, AO.isDead], by simpa [O.names] using h.1, fun st' hs hd K' hk => ?_⟩
      simp only [eff]
      exact ⟨hd r (by simp [O.names]), hk⟩
  | cons p ps =>
    simp only [eff] at h
    obtain ⟨h1, h2⟩ := h
    obtain ⟨v, news, n1, n2, n3, n4⟩ := newSl_quiet h2
    refine ⟨v, news, n1, n2, n3, fun st' hs hd K' hk => ?_⟩
    simp only [eff]
    have hp : ∀ x ∈ p :: ps, x.ev st' = x.ev st := fun x hx => hs.ev x (by simpa [O.xs] using hx)
    have e1 : (p :: ps).all (fun p => (p.ev st').val && V.closedL (p.ev st').cells && (p.ev st').cells.length == s) = (p :: ps).all (fun p => (p.ev st).val && V.closedL (p.ev st).cells && (p.ev st).cells.length == s) :=
      all_congr' fun x hx => by rw [hp x hx]
    have e2 : (p :: ps).map (fun p => (p.ev st').cells) = (p :: ps).map (fun p => (p.ev st).cells) := List.map_congr_left fun x hx => by rw [hp x hx]
    rw [e1, e2]
    exact ⟨h1, n4 st' hd K' hk⟩

theorem mks_quiet {s bytes : Nat} {z : List V} {x : X} {mode : Option Nat} {d : Option Nat} {K : St → Prop} (h : eff P (.mks s bytes z x mode) d st K) : QuietAt P (.mks s bytes z x mode) d st K := by
  simp only [eff] at h
  split at h
  · rename_i m hx
    obtain ⟨h0, h1, h2, h3⟩ := h
    obtain ⟨v, news, n1, n2, n3, n4⟩ := newSl_quiet h3
    refine ⟨v, news, n1, n2, n3, fun st' hs hd K' hk => ?_⟩
    simp only [eff]
    rw [hs.ev x (by simp [O.xs]), hx]
    exact ⟨h0, h1, h2, n4 st' hd K' hk⟩
  · exact h.elim

theorem srcRows_same {st' : St} {s : Nat} {v : V} {ys : List (List V)} (h : srcRows st s v = some ys) (hh : ∀ r, v.has (fun i => i == r) = true → (st.heap r).isDead = false → st'.heap r = st.heap r) : srcRows st' s v = some ys := by
  cases v with
  | sref r j m =>
    simp only [srcRows] at h ⊢
    cases e : st.heap r with
    | rows s' rs => rw [hh r (by simp [V.has]) (by rw [e]; rfl)]; exact h
    | _ => simp [e] at h
  | _ => exact h

theorem app_quiet {s bytes : Nat} {x y : X} {mode : Option Nat} {d : Option Nat} {K : St → Prop} (hq : ∃ s, x.ev st = .nils s) (h : eff P (.app s bytes x y mode) d st K) : QuietAt P (.app s bytes x y mode) d st K := by
  obtain ⟨s0, hx⟩ := hq
  simp only [eff] at h
  split at h
  · exact h.elim
  · rename_i ys hy
    rw [hx] at h
    dsimp only at h
    obtain ⟨h1, h2⟩ := h
    obtain ⟨v, news, n1, n2, n3, n4⟩ := newSl_quiet h2
    refine ⟨v, news, n1, n2, n3, fun st' hs hd K' hk => ?_⟩
    have e : srcRows st' s (y.ev st) = some ys := srcRows_same hy fun r hr hl => hs.heap y (by simp [O.xs]) r (.here hr) hl
    simp only [eff]
    rw [hs.ev x (by simp [O.xs]), hs.ev y (by simp [O.xs]), e, hx]
    exact ⟨h1, n4 st' hd K' hk⟩

theorem slice_quiet {s : Nat} {x : X} {lo hi : Option X} {d : Option Nat} {K : St → Prop} (h : eff P (.slice s x lo hi) d st K) : QuietAt P (.slice s x lo hi) d st K := by
  cases lo <;> cases hi <;>
  · simp only [eff] at h
    split at h
    · rename_i f s' rows k l hx hlo
      first
        | (split at h
           · rename_i k' hh h3
             obtain ⟨q1, q2, q3, q4, q5⟩ := h
             refine ⟨_, [], q5, by simp, by simp [O.names], fun st' hs _ K' hk => ?_⟩
             have hs1 := hs.ev
             simp only [O.xs, Option.toList, List.append_nil, List.cons_append, List.nil_append, List.mem_cons, List.not_mem_nil, or_false, forall_eq_or_imp, forall_eq] at hs1
             simp only [eff, hs1, hx, hlo, h3]
             exact ⟨q1, q2, q3, q4, hk⟩
           · exact h.elim)
        | (obtain ⟨q1, q2, q3, q4, q5⟩ := h
           refine ⟨_, [], q5, by simp, by simp [O.names], fun st' hs _ K' hk => ?_⟩
           have hs1 := hs.ev
           simp only [O.xs, Option.toList, List.append_nil, List.cons_append, List.nil_append, List.mem_cons, List.not_mem_nil, or_false, forall_eq_or_imp, forall_eq] at hs1
           simp only [eff, hs1, hx, hlo]
           exact ⟨q1, q2, q3, q4, hk⟩)
    · rename_i r i m k l hx hlo
      split at h
      · rename_i s' rs k' hh h3 h4
        obtain ⟨q1, q2, q3, q4, q5⟩ := h
        refine ⟨_, [], q5, by simp, by simp [O.names], fun st' hs _ K' hk => ?_⟩
        have e := hs.at (x := x) (by simp [O.xs]) hx (r := r) (by simp [V.has]) (by rw [h3]; rfl)
        have hs1 := hs.ev
        simp only [O.xs, Option.toList, List.append_nil, List.cons_append, List.nil_append, List.mem_cons, List.not_mem_nil, or_false, forall_eq_or_imp, forall_eq] at hs1
        simp only [eff, hs1, hx, hlo, e, h3, h4]
        exact ⟨q1, q2, q3, q4, hk⟩
      · exact h.elim
    · exact h.elim

end Go.Ab
