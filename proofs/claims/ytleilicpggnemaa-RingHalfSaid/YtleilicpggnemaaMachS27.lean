/-
  Regions in any order: what reads alone, and makes.
-/
import Derived.Test.YtleilicpggnemaaMachS26
namespace Go.Ab
open Go

variable {E : Ent} {n : Sz} {C : Ctx} {st : St} {a : Act} {P : Program}

/-- Which objects a value leads to. -/
inductive Reach (st : St) : V → Nat → Prop where
  | here {v : V} {r : Nat} (h : v.has (fun i => i == r) = true) : Reach st v r
  | box {v : V} {q r : Nat} {cs : List V} {c : V} (h : v.has (fun i => i == q) = true) (hq : st.heap q = .box cs) (hc : c ∈ cs) (t : Reach st c r) : Reach st v r

structure SameQ (q : O) (st st' : St) : Prop where
  ev : ∀ x ∈ q.xs, x.ev st' = x.ev st
  heap : ∀ x ∈ q.xs, ∀ r, Reach st (x.ev st) r → (st.heap r).isDead = false → st'.heap r = st.heap r

theorem SameQ.at {q : O} {st' : St} (h : SameQ q st st') {x : X} (hx : x ∈ q.xs) {v : V} (hv : x.ev st = v) {r : Nat} (hr : v.has (fun i => i == r) = true) (hl : (st.heap r).isDead = false) : st'.heap r = st.heap r :=
  h.heap x hx r (hv ▸ .here hr) hl

/-- What an operation of class 1 does: it makes news, and yields v; and so it does in any state with what it looks at. -/
def QuietAt (P : Program) (q : O) (d : Option Nat) (st : St) (K : St → Prop) : Prop :=
  ∃ v news, K ((st.sets news).put d v) ∧ (∀ y ∈ news, y.1 ∈ q.names ∧ y.2.isDead = false) ∧ (∀ r ∈ q.names, (st.heap r).isDead = true) ∧
    ∀ st' : St, SameQ q st st' → (∀ r ∈ q.names, (st'.heap r).isDead = true) → ∀ K' : St → Prop, K' ((st'.sets news).put d v) → eff P q d st' K'

theorem newSl_quiet {s : Nat} {rows : List (List V)} {mode d : Option Nat} {K : St → Prop} (h : newSl s rows mode d st K) :
    ∃ v news, K ((st.sets news).put d v) ∧ (∀ y ∈ news, y.1 ∈ mode.toList ∧ y.2.isDead = false) ∧ (∀ r ∈ mode.toList, (st.heap r).isDead = true) ∧
      ∀ st' : St, (∀ r ∈ mode.toList, (st'.heap r).isDead = true) → ∀ K' : St → Prop, K' ((st'.sets news).put d v) → newSl s rows mode d st' K' := by
  cases mode with
  | none => exact ⟨_, [], h, by simp, by simp, fun st' _ K' hk => hk⟩
  | some r =>
    obtain ⟨h1, h2⟩ := h
    exact ⟨_, [(r, .rows s rows)], h2, by simp [AO.isDead], by simpa using h1, fun st' hd K' hk => ⟨hd r (by simp), hk⟩⟩

theorem thawC_names (v : V) (ns : List Nat) : (thawC v ns).2.2.map (·.1) ++ (thawC v ns).2.1 = ns ∧ ∀ y ∈ (thawC v ns).2.2, y.2.isDead = false := by
  unfold thawC
  split
  · split <;> simp [AO.isDead]
  · simp
theorem thawL_names : ∀ (l : List V) (ns : List Nat), (thawL l ns).2.2.map (·.1) ++ (thawL l ns).2.1 = ns ∧ ∀ y ∈ (thawL l ns).2.2, y.2.isDead = false
  | [], ns => by simp [thawL]
  | v :: l, ns => by
    obtain ⟨h1, h2⟩ := thawC_names v ns
    obtain ⟨h3, h4⟩ := thawL_names l (thawC v ns).2.1
    simp only [thawL, List.map_append, List.append_assoc, List.mem_append]
    exact ⟨by rw [h3, h1], fun y hy => hy.elim (h2 y) (h4 y)⟩
theorem thaw2_names (v : V) (ns : List Nat) : (thaw2 v ns).2.2.map (·.1) ++ (thaw2 v ns).2.1 = ns ∧ ∀ y ∈ (thaw2 v ns).2.2, y.2.isDead = false := by
  unfold thaw2
  split
  · exact thawL_names _ ns
  · exact thawC_names _ ns
theorem thawT_names : ∀ (l : List V) (ns : List Nat), (thawT l ns).2.2.map (·.1) ++ (thawT l ns).2.1 = ns ∧ ∀ y ∈ (thawT l ns).2.2, y.2.isDead = false
  | [], ns => by simp [thawT]
  | v :: l, ns => by
    obtain ⟨h1, h2⟩ := thaw2_names v ns
    obtain ⟨h3, h4⟩ := thawT_names l (thaw2 v ns).2.1
    simp only [thawT, List.map_append, List.append_assoc, List.mem_append]
    exact ⟨by rw [h3, h1], fun y hy => hy.elim (h2 y) (h4 y)⟩
theorem thaw_names (v : V) (ns : List Nat) : (thaw v ns).2.2.map (·.1) ++ (thaw v ns).2.1 = ns ∧ ∀ y ∈ (thaw v ns).2.2, y.2.isDead = false := by
  unfold thaw
  split
  · exact thawT_names _ ns
  · exact thaw2_names _ ns

theorem isDead_false_of {o : AO} : (o = .dead → False) → o.isDead = false := by cases o <;> simp [AO.isDead]

/-- What is read through a value is the same, where what it leads to is. -/
theorem frz_same {st st' : St} : ∀ (k : Nat) (v : V), (∀ r, Reach st v r → (st.heap r).isDead = false → st'.heap r = st.heap r) → (frz st k v).closed = true → frz st' k v = frz st k v
  | 0, v, _, _ => by
    have e : ∀ st, frz st 0 v = v := fun st => by unfold frz; cases v <;> rfl
    rw [e, e]
  | k + 1, v, hh, hc => by
    have lst : ∀ (l : List V), (∀ c ∈ l, ∀ r, Reach st c r → Reach st v r) → V.closedL (l.map (frz st k)) = true → l.map (frz st' k) = l.map (frz st k) := fun l hr hcl =>
      List.map_congr_left fun c hm => frz_same k c (fun r hrr hl => hh r (hr c hm r hrr) hl) (by
        obtain ⟨j, hj⟩ := List.getElem?_of_mem hm
        exact closedL_all hcl j _ (by simp [hj]))
    cases v with
    | sref r i m =>
      simp only [frz] at hc ⊢
      cases e : st.heap r with
      | rows s rs => rw [hh r (.here (by simp [V.has])) (by rw [e]; rfl), e]
      | _ => rw [e] at hc; simp [V.closed] at hc
    | rptr r i m =>
      simp only [frz] at hc ⊢
      cases e : st.heap r with
      | rows s rs => rw [hh r (.here (by simp [V.has])) (by rw [e]; rfl), e]
      | _ => rw [e] at hc; simp [V.closed] at hc
    | ptr r off =>
      simp only [frz] at hc ⊢
      cases e : st.heap r with
      | box cs =>
        rw [e] at hc
        simp only [V.closed] at hc
        rw [hh r (.here (by simp [V.has])) (by rw [e]; rfl), e]
        simp only
        rw [lst cs (fun c hm q hq => .box (by simp [V.has]) e hm hq) hc]
      | _ => rw [e] at hc; simp [V.closed] at hc
    | agg cs =>
      simp only [frz, V.closed] at hc ⊢
      rw [lst cs (fun c hm r hr => reach_sub (fun p hp => by simpa [V.has] using hasL_mem hm hp) hr) hc]
    | tup cs =>
      simp only [frz, V.closed] at hc ⊢
      rw [lst cs (fun c hm r hr => reach_sub (fun p hp => by simpa [V.has] using hasL_mem hm hp) hr) hc]
    | fn f x y =>
      simp only [frz, V.closed, Bool.and_eq_true] at hc ⊢
      rw [lst x (fun c hm r hr => reach_sub (fun p hp => by simp [V.has, hasL_mem hm hp]) hr) hc.1, lst y (fun c hm r hr => reach_sub (fun p hp => by simp [V.has, hasL_mem hm hp]) hr) hc.2]
    | _ => rfl
where
  hasL_mem {p : Nat → Bool} {c : V} {l : List V} (hm : c ∈ l) (hp : c.has p = true) : V.hasL p l = true := by
    induction l with
    | nil => simp at hm
    | cons x l ih =>
      simp only [V.hasL, Bool.or_eq_true]
      rcases List.mem_cons.1 hm with rfl | hm
      · exact .inl hp
      · exact .inr (ih hm)
  reach_sub {st : St} {c v : V} {r : Nat} (h : ∀ p, c.has p = true → v.has p = true) (hr : Reach st c r) : Reach st v r := by
    cases hr with
    | here h1 => exact .here (h _ h1)
    | box h1 h2 h3 h4 => exact .box (h _ h1) h2 h3 h4

end Go.Ab
