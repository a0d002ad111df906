/-
  Each operation of the abstract machine is what the model's operation does: what only computes.
-/
import Derived.Test.YtleilicpggnemaaMachS3
import Derived.Laws.Slices
namespace Go.Ab
open Go

variable {E : Ent} {n : Sz} {C : Ctx} {st : St} {a : Act} {P : Program}

/-- 'o' is what the abstract operation q does. -/
def Snd (P : Program) (q : O) : Prop :=
  ∀ {E : Ent} {n : Sz} {C : Ctx} {st : St} {a : Act} {o : Oper} {d : Option Nat} {K : St → Prop} {next : Act → World → Prop} {Q : Exit → Act → World → Prop},
    Inv E n C st a → okOp P q o.op = true → okDst n d o.dst = true → eff P q d st K → (∀ C' st' a', Inv E n C' st' a' → K st' → next a' C'.w) → o.wp P a C.w next Q

theorem snd_load {agg : Bool} {k : Nat} {x : X} : Snd P (.load agg k x) := fun h1 h2 h3 h4 h5 => run_load_op h1 h2 h3 h4 h5

theorem loadb_load {st : St} {k : Nat} {x : X} {d : Option Nat} {K : St → Prop} (h : eff P (.loadb k x) d st K) : eff P (.load true k x) d st K := by
  simp only [eff] at h ⊢
  generalize x.ev st = X at h ⊢
  cases X <;> first | exact h.elim | skip
  rename_i r off
  simp only at h ⊢
  generalize st.heap r = O at h ⊢
  cases O <;> first | exact h.elim | exact h
theorem snd_loadb {k : Nat} {x : X} : Snd P (.loadb k x) := by
  intro E n C st a o d K next Q h1 h2 h3 h4 h5
  have e : okOp P (.load true k x) o.op = okOp P (.loadb k x) o.op := by cases o.op <;> rfl
  exact run_load_op h1 (e.trans h2) h3 (loadb_load h4) h5

theorem snd_mv {x : X} : Snd P (.mv x) := by
  intro E n C st a o d K next Q hinv hok hd h hn
  cases hop : o.op <;> rw [hop] at hok <;> simp only [okOp, Bool.false_eq_true] at hok
  all_goals
    rename_i y
    exact wp_value (u := a.eval y) (w' := C.w) (by simp [execOp, hop]) (hn C _ _ (hinv.put hd (hinv.ev hok)) h)

theorem R_bool {b : Bool} {u : Value} (h : R C (.bool b) u) : u = .bool b := by cases h; rfl
theorem R_int {k : IntKind} {m : Int} {u : Value} (h : R C (.int k m) u) : u = .int k m := by cases h; rfl
theorem R_str {s : ByteArray} {u : Value} (h : R C (.str s) u) : u = .string s := by cases h; rfl

theorem snd_pick {c x y : X} : Snd P (.pick c x y) := by
  intro E n C st a o d K next Q hinv hok hd h hn
  cases hop : o.op <;> rw [hop] at hok <;> simp only [okOp, Bool.false_eq_true, Bool.and_eq_true] at hok
  rename_i c' x' y'
  obtain ⟨⟨h1, h2⟩, h3⟩ := hok
  have hc := hinv.ev h1
  have hx := hinv.ev h2
  have hy := hinv.ev h3
  have fin : ∀ (t : Bool) (v : V), c.ev st = .bool t → R C v (if t then a.eval x' else a.eval y') → K (st.put d v) → o.wp P a C.w next Q := by
    intro t v ht hv hK
    rw [ht] at hc
    have := R_bool hc
    refine wp_value (u := if t then a.eval x' else a.eval y') (w' := C.w) ?_ (hn C _ _ (hinv.put hd hv) hK)
    simp [execOp, hop, this, asBool]
  simp only [eff] at h
  split at h
  · rename_i t p q e1 e2 e3
    refine fin t _ e1 ?_ h
    rw [e2] at hx; rw [e3] at hy
    cases t
    · simpa using hy
    · simpa using hx
  · rename_i t e1 hne
    cases t
    · exact fin false _ e1 (by simpa using hy) (h.2 rfl)
    · exact fin true _ e1 (by simpa using hx) (h.1 rfl)
  · exact h.elim

theorem snd_not {x : X} : Snd P (.not x) := by
  intro E n C st a o d K next Q hinv hok hd h hn
  cases hop : o.op <;> rw [hop] at hok <;> simp only [okOp, Bool.false_eq_true, Bool.and_eq_true, beq_iff_eq] at hok
  rename_i u t y
  obtain ⟨rfl, h1⟩ := hok
  have hx := hinv.ev h1
  simp only [eff] at h
  split at h
  · rename_i b e
    rw [e] at hx
    exact wp_value (u := .bool !b) (w' := C.w) (by simp [execOp, hop, R_bool hx, Op.unary]) (hn C _ _ (hinv.put hd (.bool _)) h)
  · exact h.elim

theorem snd_neg {x : X} : Snd P (.neg x) := by
  intro E n C st a o d K next Q hinv hok hd h hn
  cases hop : o.op <;> rw [hop] at hok <;> simp only [okOp, Bool.false_eq_true, Bool.and_eq_true, beq_iff_eq] at hok
  rename_i u t y
  obtain ⟨rfl, h1⟩ := hok
  have hx := hinv.ev h1
  simp only [eff] at h
  split at h
  · rename_i k m e
    rw [e] at hx
    exact wp_value (u := .int k (k.wrap (0 - m))) (w' := C.w) (by simp [execOp, hop, R_int hx, Op.unary, Op.intArith]) (hn C _ _ (hinv.put hd (.int _ _)) h)
  · exact h.elim

theorem snd_bin {op : BinOp} {x y : X} : Snd P (.bin op x y) := by
  intro E n C st a o d K next Q hinv hok hd h hn
  cases hop : o.op <;> rw [hop] at hok <;> simp only [okOp, Bool.false_eq_true, Bool.and_eq_true, beq_iff_eq] at hok
  rename_i op' t x' y' t'
  obtain ⟨⟨⟨rfl, hp⟩, h1⟩, h2⟩ := hok
  have hx := hinv.ev h1
  have hy := hinv.ev h2
  simp only [eff] at h
  split at h
  · rename_i k p k' q e1 e2
    obtain ⟨rfl, h⟩ := h
    rw [e1] at hx; rw [e2] at hy
    have hx := R_int hx
    have hy := R_int hy
    have fin : ∀ (v : V) (u : Value), R C v u → K (st.put d v) → (execOp a.eval o).run P C.w = .ok (.value u) C.w → o.wp P a C.w next Q :=
      fun v u hv hK hrun => wp_value hrun (hn C _ _ (hinv.put hd hv) hK)
    cases op <;> simp only [plainOp, Bool.false_eq_true] at hp <;> simp only [binI] at h
    · exact fin _ _ (.int _ _) h (by simp [execOp, hop, hx, hy, eqGuard, binOp, Op.intArith])
    · exact fin _ _ (.int _ _) h (by simp [execOp, hop, hx, hy, eqGuard, binOp, Op.intArith])
    · exact fin _ _ (.int _ _) h (by simp [execOp, hop, hx, hy, eqGuard, binOp, Op.intArith])
    · exact fin _ _ (.int _ _) h.2 (by simp [execOp, hop, hx, hy, eqGuard, binOp, Op.intDiv, h.1])
    · exact fin _ _ (.int _ _) h.2 (by simp [execOp, hop, hx, hy, eqGuard, binOp, Op.intDiv, h.1])
    · exact fin _ _ (.bool _) h (by simp [execOp, hop, hx, hy, eqGuard, binOp, Op.intCmp])
    · exact fin _ _ (.bool _) h (by simp [execOp, hop, hx, hy, eqGuard, binOp, Op.intCmp])
    · exact fin _ _ (.bool _) h (by simp [execOp, hop, hx, hy, eqGuard, binOp, Op.intCmp])
    · exact fin _ _ (.bool _) h (by simp [execOp, hop, hx, hy, eqGuard, binOp, Op.intCmp])
    · exact fin _ _ (.bool _) h (by simp [execOp, hop, hx, hy, eqGuard, binOp, Op.intCmp])
    · exact fin _ _ (.bool _) h (by simp [execOp, hop, hx, hy, eqGuard, binOp, Op.intCmp])
  · exact h.elim

theorem snd_max {x y : X} : Snd P (.max x y) := by
  intro E n C st a o d K next Q hinv hok hd h hn
  cases hop : o.op <;> rw [hop] at hok <;> simp only [okOp, Bool.false_eq_true] at hok
  rename_i c
  split at hok
  · rename_i x' y' hc hargs
    simp only [Bool.and_eq_true] at hok
    have hx := hinv.ev hok.1
    have hy := hinv.ev hok.2
    simp only [eff] at h
    split at h
    · rename_i k p k' q e1 e2
      obtain ⟨rfl, h⟩ := h
      rw [e1] at hx; rw [e2] at hy
      have ha : c.args = #[x', y'] := by rw [← hargs]
      refine wp_value (u := .int k (if q > p then q else p)) (w' := C.w) ?_ (hn C _ _ (hinv.put hd (.int _ _)) h)
      simp [execOp, hop, resolve, hc, ha, R_int hx, R_int hy, invoke, builtin, Builtin.max_, Builtin.max2]
    · exact h.elim
  · cases hok

theorem snd_min {x y : X} : Snd P (.min x y) := by
  intro E n C st a o d K next Q hinv hok hd h hn
  cases hop : o.op <;> rw [hop] at hok <;> simp only [okOp, Bool.false_eq_true] at hok
  rename_i c
  split at hok
  · rename_i x' y' hc hargs
    simp only [Bool.and_eq_true] at hok
    have hx := hinv.ev hok.1
    have hy := hinv.ev hok.2
    simp only [eff] at h
    split at h
    · rename_i k p k' q e1 e2
      obtain ⟨rfl, h⟩ := h
      rw [e1] at hx; rw [e2] at hy
      have ha : c.args = #[x', y'] := by rw [← hargs]
      refine wp_value (u := .int k (if q < p then q else p)) (w' := C.w) ?_ (hn C _ _ (hinv.put hd (.int _ _)) h)
      simp [execOp, hop, resolve, hc, ha, R_int hx, R_int hy, invoke, builtin, Builtin.min_, Builtin.min2]
    · exact h.elim
  · cases hok

theorem snd_ext {k : Nat} {x : X} : Snd P (.ext k x) := by
  intro E n C st a o d K next Q hinv hok hd h hn
  cases hop : o.op <;> rw [hop] at hok <;> simp only [okOp, Bool.false_eq_true, Bool.and_eq_true, beq_iff_eq] at hok
  rename_i y j
  obtain ⟨rfl, h1⟩ := hok
  have hx := hinv.ev h1
  simp only [eff] at h
  split at h
  · rename_i vs e
    obtain ⟨hk, h⟩ := h
    rw [e] at hx
    cases hu : a.eval y with
    | tuple us =>
      rw [hu] at hx
      cases hx with
      | tup _ us hl hr =>
        have hlt : k < us.length := hl ▸ hk
        refine wp_value (u := us.getD k undef) (w' := C.w) ?_ (hn C _ _ (hinv.put hd ?_) h)
        · simp [execOp, hop, hu, Instr.extract, hlt]
        · have := hr k vs[k] (List.getElem?_eq_getElem hk)
          simpa [hk] using this
    | _ => rw [hu] at hx; cases hx
  · exact h.elim

theorem evs_R (hinv : Inv E n C st a) : ∀ {l : List X} {m : List Operand}, okXs l m = true → (l.map (·.ev st)).length = (m.map a.eval).length ∧ ∀ (j : Nat) (c : V), (l.map (·.ev st))[j]? = some c → R C c ((m.map a.eval).getD j undef)
  | [], [], _ => ⟨rfl, fun j c hj => by simp at hj⟩
  | [], _ :: _, h => by simp [okXs] at h
  | _ :: _, [], h => by simp [okXs] at h
  | x :: l, y :: m, h => by
    simp only [okXs, Bool.and_eq_true] at h
    obtain ⟨i1, i2⟩ := evs_R hinv h.2
    refine ⟨by simpa using i1, fun j c hj => ?_⟩
    cases j with
    | zero => simp at hj; subst hj; simpa using hinv.ev h.1
    | succ j => simpa using i2 j c (by simpa using hj)

theorem okOp_mkf {f : FuncId} {first caps : List X} {op : Op} (h : okOp P (.mkf f first caps) op = true) :
    ∃ fi ca, op = .makeFunc (.func f) fi ca ∧ okXs first fi.toList = true ∧ okXs caps ca.toList = true := by
  cases op with
  | makeFunc fn fi ca =>
    cases fn <;> simp only [okOp, Bool.false_eq_true, Bool.and_eq_true, beq_iff_eq] at h
    obtain ⟨⟨rfl, h1⟩, h2⟩ := h
    exact ⟨_, _, rfl, h1, h2⟩
  | _ => simp [okOp] at h

theorem snd_mkf {f : FuncId} {first caps : List X} : Snd P (.mkf f first caps) := by
  intro E n C st a o d K next Q hinv hok hd h hn
  obtain ⟨fi, ca, hop, h1, h2⟩ := okOp_mkf hok
  obtain ⟨l1, r1⟩ := evs_R hinv h1
  obtain ⟨l2, r2⟩ := evs_R hinv h2
  simp only [eff] at h
  refine wp_value (u := .func (.func f) (fi.toList.map a.eval).toArray (ca.toList.map a.eval).toArray) (w' := C.w) ?_ (hn C _ _ (hinv.put hd (.fn _ _ _ _ _ l1 l2 r1 r2)) h)
  simp [execOp, hop, Instr.makeFunc]
  constructor <;> (apply Array.ext'; simp)

theorem snd_nilchk {x : X} : Snd P (.nilchk x) := by
  intro E n C st a o d K next Q hinv hok hd h hn
  cases hop : o.op <;> rw [hop] at hok <;> simp only [okOp, Bool.false_eq_true] at hok
  rename_i y
  have hx := hinv.ev hok
  have fin : ∀ v, x.ev st = v → (∃ p, a.eval y = .pointer (some p)) ∨ (∃ f u w, a.eval y = .func (.func f) u w) → K (st.put d v) → o.wp P a C.w next Q := by
    rintro v rfl hv hK
    refine wp_value (u := a.eval y) (w' := C.w) ?_ (hn C _ _ (hinv.put hd hx) hK)
    rcases hv with ⟨p, hp⟩ | ⟨f, u, w, hp⟩ <;> simp [execOp, hop, hp]
  simp only [eff] at h
  split at h
  · rename_i r o' e
    refine fin _ e ?_ h
    rw [e] at hx
    generalize a.eval y = u at hx
    cases hx; exact .inl ⟨_, rfl⟩
  · rename_i r i o' e
    refine fin _ e ?_ h
    rw [e] at hx
    generalize a.eval y = u at hx
    cases hx; exact .inl ⟨_, rfl⟩
  · rename_i r o' e
    refine fin _ e ?_ h
    rw [e] at hx
    generalize a.eval y = u at hx
    cases hx; exact .inl ⟨_, rfl⟩
  · rename_i f p q e
    refine fin _ e ?_ h
    rw [e] at hx
    generalize a.eval y = u at hx
    cases hx; exact .inr ⟨_, _, _, rfl⟩
  · exact h.elim

end Go.Ab
