/-
  The abstract machine's propositions in a form that one can reckon through step by step: tests as forks, what is not plain reckoning at marked places.
-/
import Derived.Test.YtleilicpggnemaaMachF
namespace Go.Ab
open Go

/-! ### Tests -/
structure IfLt (a b : Int) (K : Bool → Prop) : Prop where
  h : K (decide (a < b))
structure IfLe (a b : Int) (K : Bool → Prop) : Prop where
  h : K (decide (a ≤ b))
structure IfEq (a b : Int) (K : Bool → Prop) : Prop where
  h : K (a == b)
structure IfStr (a b : ByteArray) (K : Bool → Prop) : Prop where
  h : K (a.toList == b.toList)
section
variable {a b : Int} {K : Bool → Prop}
theorem IfLt.t (h : a < b) (k : K true) : IfLt a b K := ⟨by simpa [h] using k⟩
theorem IfLt.f (h : b ≤ a) (k : K false) : IfLt a b K := ⟨by have : ¬ a < b := by omega
                                                             simpa [this] using k⟩
theorem IfLt.split (y : a < b → K true) (n : b ≤ a → K false) : IfLt a b K := by
  by_cases h : a < b
  · exact .t h (y h)
  · exact .f (by omega) (n (by omega))
theorem IfLe.t (h : a ≤ b) (k : K true) : IfLe a b K := ⟨by simpa [h] using k⟩
theorem IfLe.f (h : b < a) (k : K false) : IfLe a b K := ⟨by have : ¬ a ≤ b := by omega
                                                             simpa [this] using k⟩
theorem IfLe.split (y : a ≤ b → K true) (n : b < a → K false) : IfLe a b K := by
  by_cases h : a ≤ b
  · exact .t h (y h)
  · exact .f (by omega) (n (by omega))
theorem IfEq.t (h : a = b) (k : K true) : IfEq a b K := ⟨by simpa [h] using k⟩
theorem IfEq.f (h : a ≠ b) (k : K false) : IfEq a b K := ⟨by have : (a == b) = false := by simpa using h
                                                             rw [this]; exact k⟩
theorem IfEq.split (y : a = b → K true) (n : a ≠ b → K false) : IfEq a b K := by
  by_cases h : a = b
  · exact .t h (y h)
  · exact .f h (n h)
theorem IfStr.split {a b : ByteArray} (y : a = b → K true) (n : a ≠ b → K false) : IfStr a b K := by
  by_cases h : a = b
  · subst h; exact ⟨by simpa using y rfl⟩
  · refine ⟨?_⟩
    have : (a.toList == b.toList) = false := by
      rw [beq_eq_false_iff_ne]
      intro e
      apply h
      have e2 : a.data.toList = b.data.toList := by simpa [ByteArray.toList_eq] using e
      cases a; cases b
      simp only [ByteArray.mk.injEq]
      exact Array.ext' e2
    rw [this]; exact n h
end

/-- A place where something is to be shown (p), and a value (x) is to be written as one likes. -/
structure Lt {α : Type} (p : Unit → Prop) (x : Unit → α) (K : α → Prop) : Prop where
  need : p ()
  go : K (x ())
/-- The value gets a name. -/
theorem Lt.all {α : Type} {p : Unit → Prop} {x : Unit → α} {K : α → Prop} (hp : p ()) (k : ∀ v, v = x () → K v) : Lt p x K := ⟨hp, k _ rfl⟩
theorem Lt.to {α : Type} {p : Unit → Prop} {x : Unit → α} {K : α → Prop} {v : α} (hp : p ()) (h : x () = v) (k : K v) : Lt p x K := ⟨hp, h ▸ k⟩

/-- A value as the callee sees it, if slices are whole, and of plain elements. -/
def vw0 (st : St) (n : Nat) (v : V) : V :=
  match v with
  | .sl _ s rows => .sl false s rows
  | .sref r _ _ => match st.heap r with | .rows s rs => .sl false s rs | _ => .undef
  | v => (frz st n v).sh
def vw (st : St) (v : V) : V :=
  match v with
  | .agg cs => .agg (cs.map (vw0 st 3))
  | v => vw0 st 4 v
/-- What is to be shown for it. -/
def nd0 (st : St) (v : V) (K : Prop) : Prop :=
  match v with
  | .sl _ _ rows => V.shR rows = rows ∧ K
  | .sref r i m => match st.heap r with | .rows _ rs => (i = 0 ∧ m = rs.length ∧ V.shR rs = rs) ∧ K | _ => False
  | _ => K
def ndL (st : St) : List V → Prop → Prop
  | [], K => K
  | v :: l, K => nd0 st v (ndL st l K)
def nd (st : St) (v : V) (K : Prop) : Prop :=
  match v with
  | .agg cs => ndL st cs K
  | v => nd0 st v K
def needs (st : St) : List Pm → Prop
  | [] => True
  | p :: l => nd st (p.x.ev st) (needs st l)

/-- A call whose arguments are read alone. -/
structure CallQ (P : Program) (f : FuncId) (need : Unit → Prop) (as : List V) (plain : Bool) (K : V → Prop) : Prop where
  n : need ()
  h : ∃ (res : V) (outs : List V) (fr : Bool), CallsV P f as res outs fr ∧ (plain = true ∨ fr = true) ∧ K res
theorem CallQ.to {P : Program} {f : FuncId} {need : Unit → Prop} {as as' : List V} {plain : Bool} {K : V → Prop} {res : V} {outs : List V} {fr : Bool} (hc : CallsV P f as' res outs fr) (h : as = as') (hp : plain = true ∨ fr = true) (k : K res)
    (hn : need () := by first | exact True.intro | exact ⟨rfl, True.intro⟩ | exact ⟨rfl, rfl, True.intro⟩) : CallQ P f need as plain K :=
  ⟨hn, _, _, _, h ▸ hc, hp, k⟩

def Pm.isRo : Pm → Bool
  | .ro _ => true
  | _ => false

def binQ (op : BinOp) (k : IntKind) (a b : Int) (K : V → Prop) : Prop :=
  match op with
  | .add => Lt (fun _ => True) (fun _ => k.wrap (a + b)) fun c => K (.int k c)
  | .sub => Lt (fun _ => True) (fun _ => k.wrap (a - b)) fun c => K (.int k c)
  | .mul => Lt (fun _ => True) (fun _ => k.wrap (a * b)) fun c => K (.int k c)
  | .quo => Lt (fun _ => b ≠ 0) (fun _ => k.wrap (a.tdiv b)) fun c => K (.int k c)
  | .rem => Lt (fun _ => b ≠ 0) (fun _ => a.tmod b) fun c => K (.int k c)
  | .eql => IfEq a b fun t => K (.bool t)
  | .neq => IfEq a b fun t => K (.bool !t)
  | .lss => IfLt a b fun t => K (.bool t)
  | .leq => IfLe a b fun t => K (.bool t)
  | .gtr => IfLt b a fun t => K (.bool t)
  | .geq => IfLe b a fun t => K (.bool t)
  | _ => False

def newQ (s : Nat) (rows : List (List V)) (mode : Option Nat) (d : Option Nat) (st : St) (K : St → Prop) : Prop :=
  match mode with
  | none => K (st.put d (.sl true s rows))
  | some r => (st.heap r).isDead = true ∧ Lt (fun _ => True) (fun _ => rows.length) fun n => K ((st.set r (.rows s rows)).put d (.sref r 0 n))

def appQ (s bytes : Nat) (x : V) (ys : List (List V)) (mode : Option Nat) (d : Option Nat) (st : St) (K : St → Prop) : Prop :=
  match x with
  | .nils _ => Lt (fun _ => ys.length * bytes ≤ 140737488355328) (fun _ => ys) fun ys => newQ s ys mode d st K
  | .sref r i n => match st.heap r with
    | .rows s' rs => s' = s ∧ i = 0 ∧ Lt (fun _ => n = rs.length ∧ (n + ys.length) * bytes ≤ 140737488355328) (fun _ => rs ++ ys) fun rs' => match mode with
      | none => K ((st.kills [r]).put d (.sl true s rs'))
      | some r' => r' = r ∧ Lt (fun _ => True) (fun _ => n + ys.length) fun m => K (((st.kills [r]).set r (.rows s rs')).put d (.sref r 0 m))
    | _ => False
  | _ => False

def callQ (P : Program) (f : FuncId) (args : List Pm) (objs : List Nat) (d : Option Nat) (st : St) (K : St → Prop) : Prop :=
  match args.all Pm.isRo with
  | true => nodupB objs = true ∧ objs.all (fun r => (st.heap r).isDead) = true ∧ args.all (·.ok st st) = true ∧ CallQ P f (fun _ => needs st args) (args.map fun p => vw st (p.x.ev st)) (args.all (·.plain st)) fun res => K ((st.sets (thaw res objs).2.2).put d (thaw res objs).1)
  | false => call P f args objs d st K

/-- An operation. -/
def effQ (P : Program) (o : O) (d : Option Nat) (st : St) (K : St → Prop) : Prop :=
  match o with
  | .pick c a b => match c.ev st with
    | .bool true => K (st.put d (a.ev st))
    | .bool false => K (st.put d (b.ev st))
    | _ => False
  | .iaddr s none x i => match i.ev st with
    | .int _ n => match x.ev st with
      | .sl _ s' rows => Lt (fun _ => s' = s ∧ 0 ≤ n ∧ n.toNat < rows.length) (fun _ => rows.getD n.toNat []) fun row => K (st.put d (.cp row 0))
      | .sref r j m => match st.heap r with
        | .rows s' _ => Lt (fun _ => s' = s ∧ 0 ≤ n ∧ n.toNat < m) (fun _ => j + n.toNat) fun k => K (st.put d (.rptr r k 0))
        | _ => False
      | _ => False
    | _ => False
  | .iaddr s (some l) x i => match i.ev st with
    | .int _ n => Lt (fun _ => 0 ≤ n ∧ n.toNat < l) (fun _ => n.toNat) fun m => match x.ev st with
      | .ptr r o => K (st.put d (.ptr r (o + m * s)))
      | .rptr r j o => K (st.put d (.rptr r j (o + m * s)))
      | .cp cs o => K (st.put d (.cp cs (o + m * s)))
      | _ => False
    | _ => False
  | .bin op x y => match x.ev st, y.ev st with
    | .int k a, .int k' b => k = k' ∧ binQ op k a b fun v => K (st.put d v)
    | _, _ => False
  | .eqs ng x y => match x.ev st, y.ev st with
    | .str a, .str b => IfStr a b fun t => K (st.put d (.bool (bif ng then !t else t)))
    | _, _ => False
  | .len x => match x.ev st with
    | .sl _ _ rows => Lt (fun _ => True) (fun _ => (rows.length : Int)) fun n => K (st.put d (.int .i64 n))
    | .sref _ _ n => Lt (fun _ => True) (fun _ => (n : Int)) fun n => K (st.put d (.int .i64 n))
    | .nils _ => K (st.put d (.int .i64 0))
    | _ => False
  | .app s bytes x y mode => match y.ev st with
    | .sl _ s' ys => s' = s ∧ appQ s bytes (x.ev st) ys mode d st K
    | .nils _ => appQ s bytes (x.ev st) [] mode d st K
    | .sref r j m => match st.heap r with
      | .rows s' rs => s' = s ∧ Lt (fun _ => True) (fun _ => (rs.drop j).take m) fun ys => appQ s bytes (x.ev st) ys mode d st K
      | _ => False
    | _ => False
  | .slice s x lo hi => match x.ev st, (match lo with | none => V.int .i64 0 | some l => l.ev st) with
    | .sl f s' rows, .int _ l => match hi with
      | none => s' = s ∧ Lt (fun _ => 0 ≤ l ∧ l ≤ rows.length) (fun _ => rows.drop l.toNat) fun rows => K (st.put d (.sl f s rows))
      | some h => match h.ev st with
        | .int _ h => s' = s ∧ Lt (fun _ => 0 ≤ l ∧ l ≤ h ∧ h ≤ rows.length) (fun _ => (rows.take h.toNat).drop l.toNat) fun rows => K (st.put d (.sl f s rows))
        | _ => False
    | .sref r i n, .int _ l => match st.heap r, (match hi with | none => V.int .i64 n | some h => h.ev st) with
      | .rows s' _, .int _ h => s' = s ∧ Lt (fun _ => 0 ≤ l ∧ l ≤ h ∧ h ≤ n) (fun _ => (i + l.toNat, h.toNat - l.toNat)) fun p => K (st.put d (.sref r p.1 p.2))
      | _, _ => False
    | _, _ => False
  | .mks s bytes z n mode => match n.ev st with
    | .int .i64 n => Lt (fun _ => 0 ≤ n ∧ n ≤ 140737488355328 ∧ bytes * n ≤ 140737488355328) (fun _ => List.replicate n.toNat z) fun rows => newQ s rows mode d st K
    | _ => False
  | .call f args objs => callQ P f args objs d st K
  | o => eff P o d st K

theorem newQ_sound {s : Nat} {rows : List (List V)} {mode d : Option Nat} {st : St} {K K' : St → Prop} (h : newQ s rows mode d st K) (hK : ∀ s, K s → K' s) : newSl s rows mode d st K' := by
  unfold newQ at h
  unfold newSl
  split
  · exact hK _ h
  · obtain ⟨a, b⟩ := h
    exact ⟨a, hK _ b.go⟩

theorem appQ_sound {P : Program} {s bytes : Nat} {x y : X} {ys : List (List V)} {mode d : Option Nat} {st : St} {K K' : St → Prop} (hy : srcRows st s (y.ev st) = some ys) (h : appQ s bytes (x.ev st) ys mode d st K) (hK : ∀ s, K s → K' s) :
    eff P (.app s bytes x y mode) d st K' := by
  simp only [eff, hy]
  unfold appQ at h
  split at h
  · rename_i hx
    rw [hx]
    exact ⟨h.need, newQ_sound h.go hK⟩
  · rename_i r i n hx
    rw [hx]
    split at h
    · rename_i s' rs hr
      simp only [hr]
      obtain ⟨h1, h2, h3⟩ := h
      refine ⟨h1, h2, h3.need.1, h3.need.2, ?_⟩
      have h4 := h3.go
      cases mode with
      | none => exact hK _ h4
      | some r' => exact ⟨h4.1, hK _ h4.2.go⟩
    · exact h.elim
  · exact h.elim

theorem all_ro {args : List Pm} (h : args.all Pm.isRo = true) (st : St) :
    args.flatMap (·.gone st) = [] ∧ args.flatMap (·.box st) = [] ∧ (∀ (outs : List V) (s : St), backs st args outs s = s) ∧ (∀ s : St, blanks st args s = s) ∧ (∀ outs : List V, outsOk st args outs = true) ∧ args.any Pm.isIo = false := by
  induction args with
  | nil => exact ⟨rfl, rfl, fun outs s => by cases outs <;> rfl, fun s => rfl, fun outs => by cases outs <;> rfl, rfl⟩
  | cons p l ih =>
    simp only [List.all_cons, Bool.and_eq_true] at h
    obtain ⟨h1, h2, h3, h4, h5, h6⟩ := ih h.2
    cases p with
    | ro x =>
      refine ⟨by rw [List.flatMap_cons, h1]; rfl, by rw [List.flatMap_cons, h2]; rfl, fun outs s => ?_, fun s => ?_, fun outs => ?_, by simp [Pm.isIo, h6]⟩
      · cases outs with
        | nil => rfl
        | cons o os => exact h3 os s
      · exact h4 s
      · cases outs with
        | nil => rfl
        | cons o os => exact h5 os
    | io x n => simp [Pm.isRo] at h
    | mv x s => simp [Pm.isRo] at h

theorem vw0_eq {st : St} {n : Nat} {v : V} {K : Prop} (h : nd0 st v K) : vw0 st (n + 1) v = (frz st (n + 1) v).sh ∧ K := by
  unfold nd0 at h
  split at h
  · refine ⟨?_, h.2⟩
    simp only [vw0, frz, V.sh, h.1]
  · split at h
    · rename_i hr
      refine ⟨?_, h.2⟩
      obtain ⟨⟨rfl, rfl, h3⟩, _⟩ := h
      simp only [vw0, frz, hr, List.drop_zero, List.take_length, V.sh, h3]
    · exact h.elim
  · rename_i h1 h2
    refine ⟨?_, h⟩
    cases v <;> first | rfl | exact (h1 _ _ _ rfl).elim | exact (h2 _ _ _ rfl).elim

theorem ndL_eq {st : St} {n : Nat} : ∀ {l : List V} {K : Prop}, ndL st l K → l.map (vw0 st (n + 1)) = V.shL (l.map (frz st (n + 1))) ∧ K
  | [], _, h => ⟨rfl, h⟩
  | v :: l, K, h => by
    obtain ⟨h1, h2⟩ := vw0_eq (n := n) (show nd0 st v (ndL st l K) from h)
    obtain ⟨h3, h4⟩ := ndL_eq (n := n) h2
    exact ⟨by simp only [List.map_cons, V.shL, h1, h3], h4⟩

theorem vw_eq {st : St} {v : V} {K : Prop} (h : nd st v K) : vw st v = (frz st 4 v).sh ∧ K := by
  unfold nd at h
  split at h
  · obtain ⟨h1, h2⟩ := ndL_eq (n := 2) h
    exact ⟨by simp only [vw, frz, V.sh, h1], h2⟩
  · rename_i hne
    obtain ⟨h1, h2⟩ := vw0_eq (n := 3) h
    refine ⟨?_, h2⟩
    rw [← h1]
    unfold vw
    split
    · exact absurd rfl (hne _)
    · rfl

theorem needs_eq {st : St} : ∀ {args : List Pm}, args.all Pm.isRo = true → needs st args → (args.map fun p => vw st (p.x.ev st)) = args.map (·.val st st)
  | [], _, _ => rfl
  | p :: l, hro, h => by
    simp only [List.all_cons, Bool.and_eq_true] at hro
    obtain ⟨h1, h2⟩ := vw_eq (show nd st (p.x.ev st) (needs st l) from h)
    simp only [List.map_cons, needs_eq hro.2 h2]
    congr 1
    cases p with
    | ro x => exact h1
    | io x n => simp [Pm.isRo] at hro
    | mv x s => simp [Pm.isRo] at hro

theorem callQ_sound {P : Program} {f : FuncId} {args : List Pm} {objs : List Nat} {d : Option Nat} {st : St} {K K' : St → Prop} (h : callQ P f args objs d st K) (hK : ∀ s, K s → K' s) : call P f args objs d st K' := by
  unfold callQ at h
  split at h
  · rename_i hro
    obtain ⟨h1, h2, h3, h4, h5, h6⟩ := all_ro hro st
    obtain ⟨a, b, c, hnd, ⟨res, outs, fr, hc, hp, k⟩⟩ := h
    rw [needs_eq hro hnd] at hc
    refine ⟨by rw [h1, h2]; rfl, a, b, ?_, res, outs, fr, ?_, ?_, h5 _, ?_⟩
    · rw [h1, h2]; exact c
    · rw [h1, h2]; exact hc
    · rw [h1, h2]; exact hp.imp id fun e => ⟨e, h6⟩
    · rw [h3, h4, h1]; exact hK _ k
  · exact call_mono h hK
end Go.Ab
