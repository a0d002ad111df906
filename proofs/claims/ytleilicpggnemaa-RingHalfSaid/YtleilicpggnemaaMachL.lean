/-
  A contract of the abstract machine as a call in the model: of arguments that are read alone.
-/
import Derived.Test.YtleilicpggnemaaMachR
import Derived.Below
namespace Go.Ab
open Go Go.RowKit

/-- Neither a slice that is given away nor a variable that is handed over. -/
def V.read : V → Bool
  | .own _ _ => false
  | .io _ => false
  | _ => true

theorem read_lists {w : World} : ∀ {args : List V} {vs : List Value}, args.all V.read = true → listA (ownsA w) args vs = [] ∧ listA boxA args vs = [] ∧ ∀ b off, ¬ anyC args vs b off
  | [], vs, _ => ⟨by cases vs <;> rfl, by cases vs <;> rfl, fun b off => by cases vs <;> exact id⟩
  | a :: l, [], _ => ⟨rfl, rfl, fun b off => id⟩
  | a :: l, v :: vs, h => by
    simp only [List.all_cons, Bool.and_eq_true] at h
    obtain ⟨h1, h2, h3⟩ := read_lists (w := w) (vs := vs) h.2
    have e : ownsA w a v = [] ∧ boxA a v = [] ∧ ∀ b off, ¬ boxC a v b off := by
      cases a <;> first | exact ⟨rfl, rfl, fun b off => id⟩ | (simp [V.read] at h)
    refine ⟨by simp only [listA, h1, e.1, List.append_nil], by simp only [listA, h2, e.2.1, List.append_nil], fun b off hc => ?_⟩
    rcases hc with hc | hc
    · exact e.2.2 b off hc
    · exact h3 b off hc

theorem sameBut_eq {W : Nat → Prop} (hW : ∀ off, ¬ W off) : ∀ {o o' : Option Obj}, sameBut W o o' → o' = o
  | some (.cells c e fr), some (.cells c' e' fr'), ⟨h1, h2, h3, h4⟩ => by
    subst h1 h2
    have : c' = c := Array.ext_getElem? fun i => h4 i (hW i)
    rw [this]
  | none, o', h => h
  | some (.cells _ _ _), none, h => h
  | some (.cells c e fr), some (.map ..), h => h
  | some (.cells c e fr), some o', h => by
    cases o' with
    | cells c' e' fr' =>
      obtain ⟨h1, h2, h3, h4⟩ := h
      subst h1 h2
      have : c' = c := Array.ext_getElem? fun i => h4 i (hW i)
      rw [this]
    | _ => exact h
  | some o, o', h => by
    cases o with
    | cells c e fr =>
      cases o' with
      | none => exact h
      | some o' =>
        cases o' with
        | cells c' e' fr' =>
          obtain ⟨h1, h2, h3, h4⟩ := h
          subst h1 h2
          have : c' = c := Array.ext_getElem? fun i => h4 i (hW i)
          rw [this]
        | _ => exact h
    | _ => exact h

theorem Frame.below {w w' : World} {W : Nat → Nat → Prop} (h : Frame w w' W) (hW : ∀ b off, ¬ W b off) : Below w.heap.size w w' :=
  ⟨h.os, h.tape, h.output, h.size, fun k hk => sameBut_eq (hW k) (h.same k hk)⟩

/-- What a call does, of arguments that are read alone. -/
theorem CallsV.run {P : Program} {f : FuncId} {args : List V} {res : V} {outs : List V} {fr : Bool} (h : CallsV P f args res outs fr) {vs : List Value} {w : World} {F : Nat → Nat → Prop}
    (hl : args.length = vs.length) (hp : args.all V.read = true) (hF : ∀ b off, F b off → b < w.heap.size)
    (hR : ∀ (i : Nat) (a : V), args[i]? = some a → RA (bare w F fun b => w.heap.size ≤ b) a (vs.getD i undef)) :
    Calls P f vs.toArray w fun e w' => ∃ (v : Value) (F' : Nat → Nat → Prop), e = .returned v ∧ RB (bare w' F' fun b => w.heap.size ≤ b) res v ∧ Below w.heap.size w w' ∧ (∀ b ∈ ownsR res v, w.heap.size ≤ b) := by
  obtain ⟨h1, h2, h3⟩ := read_lists (w := w) (vs := vs) hp
  have hW : ∀ b off, ¬ writable w args vs b off := fun b off hw => by
    rcases hw with hw | hw
    · rw [h1] at hw; cases hw
    · exact h3 b off hw
  intro cs
  obtain ⟨e, w', fr', ⟨v, Fr, he, hpost⟩, rest⟩ := h w F (fun b => w.heap.size ≤ b) vs hl hR (by rw [h1, h2]; exact List.nodup_nil) (by rw [h1]; simp) (by rw [h2]; simp) (fun _ h => h)
    (fun b off hb => ⟨hF b off hb, hW b off⟩) cs
  refine ⟨e, w', fr', ⟨v, _, he, hpost.rres, hpost.frame.below hW, fun b hb => ?_⟩, rest⟩
  have := (hpost.own b (List.mem_append.2 (.inl hb))).1
  rcases this with h | h
  · exact h
  · rw [h1] at h; cases h

theorem sameBut_refl (W : Nat → Prop) : ∀ o : Option Obj, sameBut W o o
  | none => rfl
  | some o => by cases o <;> first | exact ⟨rfl, rfl, rfl, fun _ _ => rfl⟩ | rfl

theorem undef_lists {w : World} : ∀ (args : List V) (vs : List Value), listA (ownsA w) (args.map fun _ => V.undef) vs = [] ∧ listA boxA (args.map fun _ => V.undef) vs = [] ∧ ∀ b off, ¬ anyC (args.map fun _ => V.undef) vs b off := fun args vs =>
  read_lists (by simp [V.read])

/-- A contract out of a walk by hand, of arguments that are read alone. -/
theorem callsV_hand {P : Program} {f : FuncId} {args : List V} {res : V} (hp : args.all V.read = true)
    (h : ∀ (w : World) (vs : List Value) (F : Nat → Nat → Prop) (G : Nat → Prop), args.length = vs.length → (∀ (i : Nat) (a : V), args[i]? = some a → RA (bare w F G) a (vs.getD i undef)) →
      Calls P f vs.toArray w fun e w' => ∃ v, e = .returned v ∧ Below w.heap.size w w' ∧ (∀ F' G', RB (bare w' F' G') res v) ∧ (ownsR res v).Nodup ∧ ∀ b ∈ ownsR res v, w.heap.size ≤ b) :
    CallsV P f args res (args.map fun _ => .undef) true := by
  intro w F G vs hl hR _ _ _ _ _
  refine Calls.mono (h w vs F G hl hR) ?_
  rintro e w' ⟨v, rfl, hb, hres, hnd, hown⟩
  obtain ⟨a1, a2, a3⟩ := read_lists (w := w) (vs := vs) hp
  obtain ⟨b1, b2, b3⟩ := undef_lists (w := w') args vs
  refine ⟨v, fun _ _ => False, rfl, ?_⟩
  exact { fresh := fun _ _ h => h.elim
          rres := hres _ _
          len := by simp
          routs := fun i a ha => by
            rw [List.getElem?_map] at ha
            cases hx : args[i]? with
            | none => rw [hx] at ha; cases ha
            | some x => rw [hx] at ha; cases ha; exact .undef _
          boxes := by rw [a2, b2]
          ranges := fun b off => ⟨fun h => (b3 b off h).elim, fun h => (a3 b off h).elim⟩
          nodup := by rw [b1, a2]; simpa using hnd
          own := fun b hb' => by
            rw [b1, List.append_nil] at hb'
            exact ⟨.inl (hown b hb'), fun _ h => h⟩
          frame := ⟨hb.os, hb.output, hb.tape, hb.size, fun b hlt => by rw [hb.block b hlt]; exact sameBut_refl _ _⟩ }
end Go.Ab
