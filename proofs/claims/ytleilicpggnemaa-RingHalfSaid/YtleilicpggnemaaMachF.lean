/-
  A function's abstract text, whole; a tactic that steps through it.
-/
import Derived.Test.YtleilicpggnemaaMachS25
import Derived.Test.YtleilicpggnemaaMachS32
namespace Go.Ab
open Go

structure FnT where
  k : Nat
  pins : List Nat
  ns : List Nat
  rvs : List RV
  body : C

def okFn (P : Program) (fn : Func) (t : FnT) : Bool :=
  match fn.body with
  | some code => okC P ⟨fn.ntmps, t.pins⟩ t.body code && okRVs P t.rvs fn.results.toList && decide (t.k ≤ fn.ntmps) && t.pins.all (fun i => decide (i < t.k)) && nodupB t.ns
  | none => false

/-- The variables that are handed in stand in slots that are never written. -/
def iosOk (pins : List Nat) : Nat → List V → Bool
  | _, [] => true
  | i, .io _ :: l => inl pins i && iosOk pins (i + 1) l
  | i, _ :: l => iosOk pins (i + 1) l

theorem iosOk_get {pins : List Nat} : ∀ {l : List V} {i : Nat}, iosOk pins i l = true → ∀ (j : Nat) cs, l[j]? = some (.io cs) → i + j ∈ pins
  | [], _, _, j, cs, h => by simp at h
  | v :: l, i, h, j, cs, hj => by
    have hrest : iosOk pins (i + 1) l = true := by
      cases v <;> simp only [iosOk, Bool.and_eq_true] at h <;> first | exact h.2 | exact h
    cases j with
    | zero =>
      simp at hj; subst hj
      simp only [iosOk, Bool.and_eq_true] at h
      simpa using inl_iff.1 h.1
    | succ j =>
      have := iosOk_get hrest j cs (by simpa using hj)
      rw [show i + (j + 1) = i + 1 + j by omega]; exact this

theorem callsV_fn {P : Program} (hD : RegD P) {f : FuncId} {fn : Func} (hf : P.funcs[f]? = some fn) {t : FnT} (hok : okFn P fn t = true) {args : List V} {res : V} {outs : List V} {fr : Bool}
    (hl : args.length = t.k) (hio : iosOk t.pins 0 args = true) (hsh : args.map V.sh = args) (hwp : wpC P t.body (St.enter args t.ns) fun e st => (e = .normal ∨ e = .ret) ∧ Leave args t.rvs res outs fr st) : CallsV P f args res outs fr := by
  unfold okFn at hok
  cases hb : fn.body with
  | none => rw [hb] at hok; cases hok
  | some code =>
    rw [hb] at hok
    simp only [Bool.and_eq_true, decide_eq_true_eq, List.all_eq_true] at hok
    obtain ⟨⟨⟨⟨h1, h2⟩, h3⟩, h4⟩, h5⟩ := hok
    exact callsV_of hD hf hb h1 h2 (hl ▸ h3) (fun i hi => by rw [hl]; exact h4 i hi) (fun i cs hi => by simpa using iosOk_get hio i cs hi) hsh (nodupB_iff h5) hwp

end Go.Ab
