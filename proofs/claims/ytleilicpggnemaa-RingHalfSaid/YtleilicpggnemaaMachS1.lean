/-
  Laws of the relation between abstract values and memory.
-/
import Derived.Test.YtleilicpggnemaaMachB
namespace Go.Ab
open Go

theorem hasL_false {p : Nat → Bool} {l : List V} (h : V.hasL p l = false) : ∀ (j : Nat) (c : V), l[j]? = some c → c.has p = false := by
  induction l with
  | nil => intro j c hc; simp at hc
  | cons v l ih =>
    simp only [V.hasL, Bool.or_eq_false_iff] at h
    intro j c hc
    cases j with
    | zero => simp at hc; subst hc; exact h.1
    | succ j => exact ih h.2 j c (by simpa using hc)

theorem closedL_all {l : List V} (h : V.closedL l = true) : ∀ (j : Nat) (c : V), l[j]? = some c → c.closed = true := by
  induction l with
  | nil => intro j c hc; simp at hc
  | cons v l ih =>
    simp only [V.closedL, Bool.and_eq_true] at h
    intro j c hc
    cases j with
    | zero => simp at hc; subst hc; exact h.1
    | succ j => exact ih h.2 j c (by simpa using hc)

theorem closedL_of {l : List V} (h : ∀ c ∈ l, c.closed = true) : V.closedL l = true := by
  induction l with
  | nil => rfl
  | cons v l ih => simp only [V.closedL, Bool.and_eq_true]; exact ⟨h v (by simp), ih fun c hc => h c (by simp [hc])⟩

theorem hasL_of {p : Nat → Bool} {l : List V} (h : ∀ c ∈ l, c.has p = false) : V.hasL p l = false := by
  induction l with
  | nil => rfl
  | cons v l ih => simp only [V.hasL, Bool.or_eq_false_iff]; exact ⟨h v (by simp), ih fun c hc => h c (by simp [hc])⟩

mutual
theorem closed_has (p : Nat → Bool) : ∀ v : V, v.closed = true → v.has p = false
  | .undef, h => by simp [V.closed] at h
  | .bool _, _ => by simp [V.has]
  | .int _ _, _ => by simp [V.has]
  | .str _, _ => by simp [V.has]
  | .nilp, _ => by simp [V.has]
  | .nilf, _ => by simp [V.has]
  | .ptr _ _, h => by simp [V.closed] at h
  | .rptr _ _ _, h => by simp [V.closed] at h
  | .sref _ _ _, h => by simp [V.closed] at h
  | .nils _, _ => by simp [V.has]
  | .sl _ _ _, _ => by simp [V.has]
  | .cp _ _, _ => by simp [V.has]
  | .agg cs, h => by simp only [V.closed] at h; simp only [V.has]; exact closedL_hasL p cs h
  | .tup cs, h => by simp only [V.closed] at h; simp only [V.has]; exact closedL_hasL p cs h
  | .fn _ a b, h => by
    simp only [V.closed, Bool.and_eq_true] at h
    simp only [V.has, Bool.or_eq_false_iff]
    exact ⟨closedL_hasL p a h.1, closedL_hasL p b h.2⟩
  | .mp _, h => by simp [V.closed] at h
  | .own _ _, h => by simp [V.closed] at h
  | .io _, h => by simp [V.closed] at h
theorem closedL_hasL (p : Nat → Bool) : ∀ l : List V, V.closedL l = true → V.hasL p l = false
  | [], _ => rfl
  | v :: l, h => by
    simp only [V.closedL, Bool.and_eq_true] at h
    simp only [V.hasL, Bool.or_eq_false_iff]
    exact ⟨closed_has p v h.1, closedL_hasL p l h.2⟩
end

/-- C' holds all that C holds, but for the objects out of p. -/
structure Compat (p : Nat → Bool) (C C' : Ctx) : Prop where
  F : ∀ b off, C.F b off → C'.F b off ∧ C'.w.cell? ⟨b, off, none⟩ = C.w.cell? ⟨b, off, none⟩
  G : ∀ b, C.G b → C'.G b
  box : ∀ r cs, p r = false → C.heap r = .box cs → (∃ cs', C'.heap r = .box cs') ∧ C'.loc r = C.loc r
  rows : ∀ r s rs, p r = false → C.heap r = .rows s rs → (∃ rs', C'.heap r = .rows s rs' ∧ rs'.length = rs.length) ∧ C'.loc r = C.loc r

theorem R.compat {p : Nat → Bool} {C C' : Ctx} (hc : Compat p C C') {v : V} {u : Value} (h : R C v u) : v.has p = false → R C' v u := by
  induction h with
  | undef u => intro _; exact .undef u
  | bool b => intro _; exact .bool b
  | int k n => intro _; exact .int k n
  | str s => intro _; exact .str s
  | nilp => intro _; exact .nilp
  | nilf => intro _; exact .nilf
  | ptr r off cs L h hl =>
    intro hp
    obtain ⟨⟨cs', h'⟩, hl'⟩ := hc.box r cs (by simpa [V.has] using hp) h
    exact .ptr r off cs' L h' (hl'.trans hl)
  | rptr r i off s rs L h hl hi =>
    intro hp
    obtain ⟨⟨rs', h', hlen⟩, hl'⟩ := hc.rows r s rs (by simpa [V.has] using hp) h
    exact .rptr r i off s rs' L h' (hl'.trans hl) (hlen ▸ hi)
  | sref r i n s rs L h hl hi =>
    intro hp
    obtain ⟨⟨rs', h', hlen⟩, hl'⟩ := hc.rows r s rs (by simpa [V.has] using hp) h
    exact .sref r i n s rs' L h' (hl'.trans hl) (hlen ▸ hi)
  | srefNil r s h hl =>
    intro hp
    obtain ⟨⟨rs', h', hlen⟩, hl'⟩ := hc.rows r s [] (by simpa [V.has] using hp) h
    have : rs' = [] := List.eq_nil_of_length_eq_zero hlen
    subst this
    exact .srefNil r s h' (hl'.trans hl)
  | srefZ r i s rs b off h hi =>
    intro hp
    obtain ⟨⟨rs', h', hlen⟩, hl'⟩ := hc.rows r s rs (by simpa [V.has] using hp) h
    exact .srefZ r i s rs' b off h' (hlen ▸ hi)
  | nils s => intro _; exact .nils s
  | nilsSome s b off => intro _; exact .nilsSome s b off
  | slNil fr s => intro _; exact .slNil fr s
  | sl fr s rows b base cap g hc1 hm hu hfr hcell hcl hr ih =>
    intro _
    refine .sl fr s rows b base cap g hc1 hm hu (fun h1 h2 => hc.G _ (hfr h1 h2)) (fun i j c hij => ?_) hcl (fun i j c hij => ih i j c hij (closed_has p _ (hcl i j c hij)))
    obtain ⟨h1, h2, h3⟩ := hcell i j c hij
    obtain ⟨h4, h5⟩ := hc.F _ _ h2
    exact ⟨h5.trans h1, h4, h3⟩
  | cp cs off b base g hcell hcl hr ih =>
    intro _
    refine .cp cs off b base g (fun j c hj => ?_) hcl (fun j c hj => ih j c hj (closed_has p _ (hcl j c hj)))
    obtain ⟨h1, h2, h3⟩ := hcell j c hj
    obtain ⟨h4, h5⟩ := hc.F _ _ h2
    exact ⟨h5.trans h1, h4, h3⟩
  | agg cs us hl h1 hr ih =>
    intro hp
    exact .agg cs us hl h1 fun j c hj => ih j c hj (hasL_false (by simpa [V.has] using hp) j c hj)
  | tup vs us hl hr ih =>
    intro hp
    exact .tup vs us hl fun j c hj => ih j c hj (hasL_false (by simpa [V.has] using hp) j c hj)
  | fn f first caps us ws hl hl' hr hr' ih ih' =>
    intro hp
    simp only [V.has, Bool.or_eq_false_iff] at hp
    exact .fn f first caps us ws hl hl' (fun j c hj => ih j c hj (hasL_false hp.1 j c hj)) (fun j c hj => ih' j c hj (hasL_false hp.2 j c hj))

mutual
theorem has_none : ∀ v : V, v.has (fun _ => false) = false
  | .undef | .bool _ | .int _ _ | .str _ | .nilp | .nilf | .ptr _ _ | .rptr _ _ _ | .sref _ _ _ | .nils _ | .sl _ _ _ | .cp _ _ | .mp _ | .own _ _ | .io _ => by simp [V.has]
  | .agg cs => by simp only [V.has]; exact hasL_none cs
  | .tup cs => by simp only [V.has]; exact hasL_none cs
  | .fn _ a b => by simp [V.has, hasL_none a, hasL_none b]
theorem hasL_none : ∀ l : List V, V.hasL (fun _ => false) l = false
  | [] => rfl
  | v :: l => by simp [V.hasL, has_none v, hasL_none l]
end

theorem R.mono {C C' : Ctx} (hc : Compat (fun _ => false) C C') {v : V} {u : Value} (h : R C v u) : R C' v u := h.compat hc (has_none v)

/-- A value that leads to no object reads so in any context with the same frozen cells. -/
theorem R.of_closed {C C' : Ctx} (hF : ∀ b off, C.F b off → C'.F b off ∧ C'.w.cell? ⟨b, off, none⟩ = C.w.cell? ⟨b, off, none⟩) (hG : ∀ b, C.G b → C'.G b)
    {v : V} {u : Value} (h : R C v u) (hv : v.closed = true) : R C' v u :=
  h.compat (p := fun _ => true) ⟨hF, hG, fun _ _ h => by simp at h, fun _ _ _ h => by simp at h⟩ (closed_has _ v hv)

theorem R.kill1 {p : Nat → Bool} {C C' : Ctx} (hc : Compat p C C') {v : V} {u : Value} (h : R C v u) : R C' (v.kill1 p) u := by
  unfold V.kill1
  split
  · exact .undef u
  · rename_i hp; exact h.compat hc (by simpa using hp)

theorem R.kill2 {p : Nat → Bool} {C C' : Ctx} (hc : Compat p C C') {v : V} {u : Value} (h : R C v u) : R C' (v.kill2 p) u := by
  cases h with
  | agg cs us hl h1 hr =>
    simp only [V.kill2]
    refine .agg _ us (by simpa using hl) h1 fun j c hj => ?_
    simp only [List.getElem?_map, Option.map_eq_some_iff] at hj
    obtain ⟨c', hj', rfl⟩ := hj
    exact (hr j c' hj').kill1 hc
  | _ => exact R.kill1 hc (by constructor <;> assumption)

theorem R.kill {p : Nat → Bool} {C C' : Ctx} (hc : Compat p C C') {v : V} {u : Value} (h : R C v u) : R C' (v.kill p) u := by
  cases h with
  | agg cs us hl h1 hr => exact R.kill2 hc (.agg cs us hl h1 hr)
  | tup vs us hl hr =>
    simp only [V.kill]
    refine .tup _ us (by simpa using hl) fun j c hj => ?_
    simp only [List.getElem?_map, Option.map_eq_some_iff] at hj
    obtain ⟨c', hj', rfl⟩ := hj
    exact (hr j c' hj').kill2 hc
  | _ => exact R.kill1 hc (by constructor <;> assumption)

end Go.Ab
