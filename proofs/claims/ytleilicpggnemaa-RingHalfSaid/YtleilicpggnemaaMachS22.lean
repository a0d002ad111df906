/-
  How a function ends.
-/
import Derived.Test.YtleilicpggnemaaMachS21
namespace Go.Ab
open Go

variable {E : Ent} {n : Sz} {C : Ctx} {st : St} {a : Act} {P : Program}

mutual
/-- Does a value lead to what was made since the function began alone? -/
def V.fresh : V → Bool
  | .sl fr _ rows => (fr || rows.isEmpty) && V.freshR rows
  | .cp cs _ => cs.isEmpty
  | .agg cs => V.freshL cs
  | .tup cs => V.freshL cs
  | .fn _ a b => V.freshL a && V.freshL b
  | _ => true
def V.freshL : List V → Bool
  | [] => true
  | v :: l => V.fresh v && V.freshL l
def V.freshR : List (List V) → Bool
  | [] => true
  | r :: l => V.freshL r && V.freshR l
end

theorem freshL_all {l : List V} (h : V.freshL l = true) : ∀ (j : Nat) (c : V), l[j]? = some c → c.fresh = true := by
  induction l with
  | nil => intro j c hc; simp at hc
  | cons v l ih =>
    simp only [V.freshL, Bool.and_eq_true] at h
    intro j c hc
    cases j with
    | zero => simp at hc; subst hc; exact h.1
    | succ j => exact ih h.2 j c (by simpa using hc)
theorem freshR_all {l : List (List V)} (h : V.freshR l = true) : ∀ (i j : Nat) (c : V), at2 l i j = some c → c.fresh = true := by
  induction l with
  | nil => intro i j c hc; simp [at2] at hc
  | cons v l ih =>
    simp only [V.freshR, Bool.and_eq_true] at h
    intro i j c hc
    cases i with
    | zero => exact freshL_all h.1 j c (by simpa [at2] using hc)
    | succ i => exact ih h.2 i j c (by simpa [at2] using hc)

theorem R_fresh {B : Ctx} (hw : B.w = C.w) (hF : ∀ b off, C.F b off → C.G b → B.F b off) (hG : ∀ b, C.G b → B.G b) {v : V} {u : Value} (h : R C v u) : v.closed = true → v.fresh = true → R B v u := by
  induction h with
  | undef u => intro _ _; exact .undef u
  | bool b => intro _ _; exact .bool b
  | int k m => intro _ _; exact .int k m
  | str s => intro _ _; exact .str s
  | nilp => intro _ _; exact .nilp
  | nilf => intro _ _; exact .nilf
  | ptr => intro hc; simp [V.closed] at hc
  | rptr => intro hc; simp [V.closed] at hc
  | sref => intro hc; simp [V.closed] at hc
  | srefNil => intro hc; simp [V.closed] at hc
  | srefZ => intro hc; simp [V.closed] at hc
  | nils s => intro _ _; exact .nils s
  | nilsSome s b off => intro _ _; exact .nilsSome s b off
  | slNil fr s => intro _ _; exact .slNil fr s
  | sl fr s rows b base cap g hc hm hu hfr hcell hcl hr ih =>
    intro _ hf
    simp only [V.fresh, Bool.and_eq_true, Bool.or_eq_true, List.isEmpty_iff] at hf
    have hgb : rows ≠ [] → C.G b := fun hne => hfr (hf.1.resolve_right hne) hne
    refine .sl fr s rows b base cap g hc hm hu (fun _ hne => hG _ (hgb hne)) (fun i j c hij => ?_) hcl (fun i j c hij => ih i j c hij (hcl i j c hij) (freshR_all hf.2 i j c hij))
    obtain ⟨h1, h2, h3⟩ := hcell i j c hij
    refine ⟨by rw [hw]; exact h1, hF _ _ h2 (hgb fun e => ?_), h3⟩
    subst e; simp [at2] at hij
  | cp cs off b base g hcell hcl hr ih =>
    intro _ hf
    simp only [V.fresh, List.isEmpty_iff] at hf
    subst hf
    exact .cp [] off b base g (fun j c hj => by simp at hj) (fun j c hj => by simp at hj) (fun j c hj => by simp at hj)
  | agg cs us hl h1 hr ih =>
    intro hc hf
    simp only [V.closed] at hc
    simp only [V.fresh] at hf
    exact .agg cs us hl h1 fun j c hj => ih j c hj (closedL_all hc j c hj) (freshL_all hf j c hj)
  | tup cs us hl hr ih =>
    intro hc hf
    simp only [V.closed] at hc
    simp only [V.fresh] at hf
    exact .tup cs us hl fun j c hj => ih j c hj (closedL_all hc j c hj) (freshL_all hf j c hj)
  | fn f first caps us ws hl hl' hr hr' ih ih' =>
    intro hc hf
    simp only [V.closed, Bool.and_eq_true] at hc
    simp only [V.fresh, Bool.and_eq_true] at hf
    exact .fn f first caps us ws hl hl' (fun j c hj => ih j c hj (closedL_all hc.1 j c hj) (freshL_all hf.1 j c hj)) (fun j c hj => ih' j c hj (closedL_all hc.2 j c hj) (freshL_all hf.2 j c hj))

/-- Result variables. -/
inductive RV where
  | t (n : Nat)
  | c (agg : Bool) (k : Nat) (n : Nat)

def RV.ev (st : St) : RV → V
  | .t n => st.env n
  | .c agg k n => match st.env n with
    | .ptr r off => match st.heap r with | .box cs => if off + k ≤ cs.length then pickc agg k off cs else .tup [] | _ => .tup []
    | _ => .tup []

def okRV (P : Program) : RV → ResultVar → Bool
  | .t n, .tmp m => n == m
  | .c agg k n, .cell a t => n == a && szOk P t k && rowOk P t agg && (agg || k == 1)
  | _, _ => false
def okRVs (P : Program) : List RV → List ResultVar → Bool
  | [], [] => true
  | x :: l, y :: m => okRV P x y && okRVs P l m
  | _, _ => false

/-- A result as it is handed back. -/
def resG (st : St) : V → V
  | .agg cs => .agg (cs.map (giveC st))
  | v => giveC st v

def V.notTup : V → Bool
  | .tup _ => false
  | _ => true

def pack : List V → V
  | [v] => v
  | vs => .tup vs

/-- A variable that was handed over, as it is handed back. -/
def outV (st : St) (i : Nat) : V → V
  | .io _ => match st.env i with
    | .ptr r 0 => match st.heap r with | .box cs' => .io (cs'.map (giveC st)) | _ => .undef
    | _ => .undef
  | _ => .undef
def outL (st : St) : Nat → List V → List V
  | _, [] => []
  | i, v :: l => outV st i v :: outL st (i + 1) l

def outOk (st : St) (i : Nat) : V → Bool
  | .io cs => match st.env i with
    | .ptr r 0 => match st.heap r with | .box cs' => cs'.length == cs.length && cs'.all (fun c => okGood (fun _ => true) (giveC st c)) | _ => false
    | _ => false
  | _ => true
def outNames (st : St) (i : Nat) : V → List Nat
  | .io _ => match st.env i with
    | .ptr r _ => match st.heap r with | .box cs' => cs'.flatMap objC | _ => []
    | _ => []
  | _ => []
def outBox (st : St) (i : Nat) : V → List Nat
  | .io _ => match st.env i with
    | .ptr r _ => [r]
    | _ => []
  | _ => []
def outAll (f : Nat → V → Bool) : Nat → List V → Bool
  | _, [] => true
  | i, v :: l => f i v && outAll f (i + 1) l
def outCat (f : Nat → V → List Nat) : Nat → List V → List Nat
  | _, [] => []
  | i, v :: l => f i v ++ outCat f (i + 1) l

/-- What holds at the end. -/
structure Leave (args : List V) (rvs : List RV) (res : V) (outs : List V) (fr : Bool) (st : St) : Prop where
  res : res = pack (rvs.map fun r => resG st (r.ev st))
  outs : outs = outL st 0 args
  ok : (rvs.all fun r => (r.ev st).notTup && (r.ev st).cells.all fun c => okGood (fun v => !fr || v.fresh) (giveC st c)) = true
  oks : outAll (outOk st) 0 args = true
  nodup : nodupB ((rvs.flatMap fun r => (r.ev st).cells.flatMap objC) ++ (outCat (outNames st) 0 args ++ outCat (outBox st) 0 args)) = true

end Go.Ab
