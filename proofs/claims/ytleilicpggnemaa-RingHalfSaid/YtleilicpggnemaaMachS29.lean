/-
  Regions in any order: calls that read alone; all operations of class 1, and stores.
-/
import Derived.Test.YtleilicpggnemaaMachS28
namespace Go.Ab
open Go

variable {E : Ent} {n : Sz} {C : Ctx} {st : St} {a : Act} {P : Program}

theorem ro_none {args : List Pm} (h : args.all (fun p => match p with | .ro _ => true | _ => false) = true) (st : St) :
    args.flatMap (·.gone st) = [] ∧ args.flatMap (·.box st) = [] ∧ (∀ s, blanks st args s = s) ∧ (∀ outs s, backs st args outs s = s) := by
  induction args with
  | nil => exact ⟨rfl, rfl, fun _ => rfl, fun outs s => by cases outs <;> rfl⟩
  | cons p ps ih =>
    simp only [List.all_cons, Bool.and_eq_true] at h
    obtain ⟨h1, h2, h3, h4⟩ := ih h.2
    cases p with
    | ro x =>
      refine ⟨by rw [List.flatMap_cons, h1]; rfl, by rw [List.flatMap_cons, h2]; rfl, fun s => by simp [blanks, h3], fun outs s => ?_⟩
      cases outs with
      | nil => rfl
      | cons o os => simp [backs, h4]
    | io x k => simp at h
    | mv x k => simp at h

theorem outsOk_ro {args : List Pm} (h : args.all (fun p => match p with | .ro _ => true | _ => false) = true) (st st' : St) : ∀ outs, outsOk st' args outs = outsOk st args outs := by
  induction args with
  | nil => intro outs; cases outs <;> rfl
  | cons p ps ih =>
    simp only [List.all_cons, Bool.and_eq_true] at h
    intro outs
    cases p with
    | ro x => cases outs with
      | nil => rfl
      | cons o os => simp only [outsOk]; exact ih h.2 os
    | io x k => simp at h
    | mv x k => simp at h

theorem call_quiet' {f : FuncId} {args : List Pm} {objs : List Nat} {d : Option Nat} {K : St → Prop} (hro : args.all (fun p => match p with | .ro _ => true | _ => false) = true) (h : call P f args objs d st K) :
    ∃ v news, K ((st.sets news).put d v) ∧ (∀ y ∈ news, y.1 ∈ objs ∧ y.2.isDead = false) ∧ (∀ r ∈ objs, (st.heap r).isDead = true) ∧
      ∀ st' : St, (∀ p ∈ args, p.x.ev st' = p.x.ev st ∧ ∀ r, Reach st (p.x.ev st) r → (st.heap r).isDead = false → st'.heap r = st.heap r) → (∀ r ∈ objs, (st'.heap r).isDead = true) →
        ∀ K' : St → Prop, K' ((st'.sets news).put d v) → call P f args objs d st' K' := by
  obtain ⟨g1, g2, g3, g4⟩ := ro_none hro st
  unfold call at h
  rw [g1, g2] at h
  obtain ⟨_, h2, h3, h4, res, outs, fr, h5, h6, h7, h8⟩ := h
  rw [g3, g4] at h8
  simp only [List.append_nil, St.kills] at h4 h5 h6 h8
  obtain ⟨t1, t2⟩ := thaw_names res objs
  refine ⟨_, _, h8, fun y hy => ⟨by rw [← t1]; exact List.mem_append_left _ (List.mem_map_of_mem hy), t2 y hy⟩, fun r hr => List.all_eq_true.1 h3 r hr, fun st' hs hd K' hk => ?_⟩
  obtain ⟨g1', g2', g3', g4'⟩ := ro_none hro st'
  have hval : ∀ p ∈ args, p.val st' st' = p.val st st := fun p hp => by
    have hpr := List.all_eq_true.1 hro p hp
    have hpo := List.all_eq_true.1 h4 p hp
    cases p with
    | ro x =>
      simp only [Pm.val]
      obtain ⟨e1, e2⟩ := hs _ hp
      simp only [Pm.x] at e1 e2
      rw [e1, frz_same 4 (x.ev st) e2 (closed_of_sh _ (by simpa [Pm.ok, Pm.val] using hpo))]
    | io x k => simp at hpr
    | mv x k => simp at hpr
  have hok : ∀ p ∈ args, p.ok st' st' = p.ok st st := fun p hp => by unfold Pm.ok; rw [hval p hp]
  have hplain : ∀ p ∈ args, p.plain st' = p.plain st := fun p hp => by
    cases p with
    | ro x => simp only [Pm.plain]; rw [show x.ev st' = x.ev st from (hs _ hp).1]
    | _ => rfl
  unfold call
  rw [g1', g2']
  simp only [List.append_nil, St.kills]
  refine ⟨rfl, h2, List.all_eq_true.2 hd, by rw [all_congr' hok]; exact h4, res, outs, fr, ?_, by rw [all_congr' hplain]; exact h6, by rw [outsOk_ro hro st st']; exact h7, ?_⟩
  · rw [List.map_congr_left hval]; exact h5
  · rw [g3', g4']; exact hk

theorem eff_quiet {o : Op'} (hq : quiet o st) {K : St → Prop} (h : eff P o.op o.dst st K) : QuietAt P o.op o.dst st K := by
  obtain ⟨d, q, g⟩ := o
  simp only at h ⊢
  cases q with
  | mv | pick | build | field | index | sidx | ext | bin | eqs | eqb | eqa | not | neg | len | slen | sslice | mkf | max | min | faddr | nilchk => exact pure_quiet rfl h
  | box => exact box_quiet h
  | alloc => exact alloc_quiet h
  | nil => exact nil_quiet h
  | bsl => exact bsl_quiet h
  | load => exact load_quiet h
  | loadb => exact loadb_quiet h
  | store => exact hq.elim
  | iaddr => exact iaddr_quiet h
  | app => exact app_quiet hq h
  | slice => exact slice_quiet h
  | mks => exact mks_quiet h
  | call f args objs =>
    simp only [eff] at h
    obtain ⟨v, news, n1, n2, n3, n4⟩ := call_quiet' hq h
    refine ⟨v, news, n1, n2, n3, fun st' hs hd K' hk => ?_⟩
    simp only [eff]
    exact n4 st' (fun p hp => ⟨hs.ev _ (by simp only [O.xs]; exact List.mem_map_of_mem hp), hs.heap _ (by simp only [O.xs]; exact List.mem_map_of_mem hp)⟩) hd K' hk
  | calln x args objs =>
    simp only [eff] at h
    split at h
    · rename_i f first caps hx
      obtain ⟨q1, q2, q3, h⟩ := h
      have hro : (first.map (fun v => Pm.ro (.k v)) ++ args ++ caps.map fun v => Pm.ro (.k v)).all (fun p => match p with | .ro _ => true | _ => false) = true := by
        simp only [List.all_append, List.all_map, Bool.and_eq_true]
        exact ⟨⟨by simp [Function.comp_def], hq⟩, by simp [Function.comp_def]⟩
      obtain ⟨v, news, n1, n2, n3, n4⟩ := call_quiet' hro h
      refine ⟨v, news, n1, n2, n3, fun st' hs hd K' hk => ?_⟩
      simp only [eff]
      rw [hs.ev x (by simp [O.xs]), hx]
      refine ⟨q1, q2, q3, n4 st' (fun p hp => ?_) hd K' hk⟩
      have closedNo : ∀ v : V, v.closed = true → ∀ r, ¬ Reach st v r := fun v hv r hr => by
        cases hr with
        | here h1 => rw [closed_has _ v hv] at h1; cases h1
        | box h1 _ _ _ => rw [closed_has _ v hv] at h1; cases h1
      simp only [List.mem_append, List.mem_map] at hp
      rcases hp with (⟨v, hv, rfl⟩ | hp) | ⟨v, hv, rfl⟩
      · obtain ⟨j, hj⟩ := List.getElem?_of_mem hv
        exact ⟨rfl, fun r hr => absurd hr (closedNo v (closedL_all q2 j v hj) r)⟩
      · exact ⟨hs.ev _ (by simp only [O.xs, List.mem_cons]; exact .inr (List.mem_map_of_mem hp)), hs.heap _ (by simp only [O.xs, List.mem_cons]; exact .inr (List.mem_map_of_mem hp))⟩
      · obtain ⟨j, hj⟩ := List.getElem?_of_mem hv
        exact ⟨rfl, fun r hr => absurd hr (closedNo v (closedL_all q3 j v hj) r)⟩
    · exact h.elim

/-- A store: it writes one object. -/
theorem eff_store {q : O} (hq : isStore q = true) {d : Option Nat} {K : St → Prop} (h : eff P q d st K) :
    ∃ r o, K ((st.set r o).put d .undef) ∧ ∀ st' : St, (∀ x ∈ q.xs, x.ev st' = x.ev st) → st'.heap = st.heap → ∀ K' : St → Prop, K' ((st'.set r o).put d .undef) → eff P q d st' K' := by
  cases q <;> simp only [isStore, Bool.false_eq_true] at hq
  rename_i k x v
  simp only [eff] at h
  obtain ⟨h1, h2, h⟩ := h
  split at h
  · rename_i r off hx
    split at h
    · rename_i cs hh
      refine ⟨r, _, h.2, fun st' hs he K' hk => ?_⟩
      simp only [eff]
      rw [hs x (by simp [O.xs]), hs v (by simp [O.xs]), hx]
      dsimp only
      rw [he, hh]
      exact ⟨h1, h2, h.1, hk⟩
    · exact h.elim
  · rename_i r i off hx
    split at h
    · rename_i s rs hh
      obtain ⟨q1, q2, q3⟩ := h
      refine ⟨r, _, q3, fun st' hs he K' hk => ?_⟩
      simp only [eff]
      rw [hs x (by simp [O.xs]), hs v (by simp [O.xs]), hx]
      dsimp only
      rw [he, hh]
      exact ⟨h1, h2, q1, q2, hk⟩
    · exact h.elim
  · exact h.elim

end Go.Ab
