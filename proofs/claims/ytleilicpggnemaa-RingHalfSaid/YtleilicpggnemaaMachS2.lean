/-
  The invariant that ties a state of the abstract machine to a run.
-/
import Derived.Test.YtleilicpggnemaaMachS1
import Derived.Test.YtleilicpggnemaaMachK
namespace Go.Ab
open Go

/-- Where a call began, and what it may write. -/
structure Ent where
  w0 : World
  Wr : Nat → Nat → Prop
  F0 : Nat → Nat → Prop
  G0 : Nat → Prop
  pars : List Value

def BoxOk (E : Ent) (C : Ctx) (L : Loc) (cs : List V) : Prop :=
  (∃ (cur : Array Value) (e : TypeId) (g : Nat → Value), C.w.heap[L.blk]? = some (.cells cur e (0, 0)) ∧
    ∀ (j : Nat) (c : V), cs[j]? = some c → cur[L.base + j]? = some (g j) ∧ (g j).oneCell' = true ∧ R C c (g j)) ∧
  (∀ j, j < cs.length → ¬ C.F L.blk (L.base + j) ∧ (E.w0.heap.size ≤ L.blk ∨ E.Wr L.blk (L.base + j))) ∧
  ((∀ off, ¬ C.F L.blk off) ∨ ¬ C.G L.blk)

def RowsOk (E : Ent) (C : Ctx) (L : Loc) (s : Nat) (rs : List (List V)) : Prop :=
  L.base = 0 ∧ rs.length ≤ L.cap ∧ L.cap ≤ maxLen ∧ (∀ row ∈ rs, row.length = s) ∧
  (∃ (cur : Array Value) (e : TypeId) (g : Nat → Nat → Value), C.w.heap[L.blk]? = some (.cells cur e (0, 0)) ∧ cur.size = L.cap * s ∧
    ∀ i j c, at2 rs i j = some c → cur[i * s + j]? = some (g i j) ∧ (g i j).oneCell' = true ∧ c.closed = true ∧ R C c (g i j)) ∧
  (∀ off, ¬ C.F L.blk off ∧ (E.w0.heap.size ≤ L.blk ∨ E.Wr L.blk off)) ∧ C.G L.blk

def ObjOk (E : Ent) (C : Ctx) (r : Nat) : Prop :=
  match C.heap r with
  | .dead => True
  | .box cs => ∃ L, C.loc r = some L ∧ BoxOk E C L cs
  | .rows s rs => (rs = [] ∧ C.loc r = none) ∨ ∃ L, C.loc r = some L ∧ RowsOk E C L s rs

structure Inv (E : Ent) (n : Sz) (C : Ctx) (st : St) (a : Act) : Prop where
  heap : C.heap = st.heap
  env : ∀ t, R C (st.env t) (a.tmps.getD t undef)
  objs : ∀ r, ObjOk E C r
  inj : ∀ r r' L L', C.loc r = some L → C.loc r' = some L' → (C.heap r).isDead = false → (C.heap r').isDead = false → L.blk = L'.blk → r = r'
  fin : ∀ b off, C.F b off → b < C.w.heap.size
  gnew : ∀ b, E.w0.heap.size ≤ b → C.G b
  frame : Frame E.w0 C.w E.Wr
  defers : a.defers = []
  size : a.tmps.size = n.n
  par : ∀ i ∈ n.pins, a.tmps.getD i undef = E.pars.getD i undef
  fnew : ∀ b off, C.F b off → E.F0 b off ∨ C.G b
  gsub : ∀ b, C.G b → E.G0 b

variable {E : Ent} {n : Sz} {C : Ctx} {st : St} {a : Act}

/-! ### Slots -/

theorem inl_iff {l : List Nat} {r : Nat} : inl l r = true ↔ r ∈ l := by
  induction l with
  | nil => simp [inl]
  | cons k l ih => simp [inl, ih]

theorem nodupB_iff : ∀ {l : List Nat}, nodupB l = true → l.Nodup
  | [], _ => List.nodup_nil
  | x :: l, h => by
    simp only [nodupB, Bool.and_eq_true, Bool.not_eq_true'] at h
    exact List.nodup_cons.2 ⟨fun hm => (by rw [inl_iff.2 hm] at h; exact absurd h.1 (by simp)), nodupB_iff h.2⟩

theorem getD_put {tmps : Array Value} {d t : Nat} {u : Value} (hd : d < tmps.size) : (tmps.setIfInBounds d u).getD t undef = if t = d then u else tmps.getD t undef := by
  by_cases h : t = d
  · subst h; simp [Array.getD, hd]
  · have : ¬ d = t := fun e => h e.symm
    simp [Array.getD_eq_getD_getElem?, this, h]

theorem Inv.put (h : Inv E n C st a) {d d' : Option Nat} (hd : okDst n d d' = true) {v : V} {u : Value} (hv : R C v u) : Inv E n C (st.put d v) (a.put d' u) := by
  cases d with
  | none => cases d' with
    | none => exact h
    | some e => simp [okDst] at hd
  | some d => cases d' with
    | none => simp [okDst] at hd
    | some e =>
      simp only [okDst, Bool.and_eq_true, beq_iff_eq, decide_eq_true_eq, Bool.not_eq_true'] at hd
      obtain ⟨⟨rfl, hd⟩, hpin⟩ := hd
      have hs : d < a.tmps.size := by rw [h.size]; exact hd
      exact { heap := h.heap, env := fun t => by
                simp only [St.put, Act.put, upd]
                rw [getD_put hs]
                split
                · exact hv
                · exact h.env t
              objs := h.objs, inj := h.inj, fin := h.fin, gnew := h.gnew, gsub := h.gsub, fnew := h.fnew, frame := h.frame, defers := h.defers
              par := fun i hi => by
                have : i ≠ d := fun e => by subst e; rw [inl_iff.2 hi] at hpin; cases hpin
                simp only [Act.put]
                rw [getD_put hs, if_neg this]
                exact h.par i hi
              size := by simp [Act.put, h.size] }

theorem Inv.put_same (h : Inv E n C st a) {t : Nat} {v : V} (hv : R C v (a.tmps.getD t undef)) : Inv E n C (st.put (some t) v) a :=
  { heap := h.heap, env := fun t' => by
      simp only [St.put, upd]
      split
      · rename_i e; subst e; exact hv
      · exact h.env t'
    objs := h.objs, inj := h.inj, fin := h.fin, gnew := h.gnew, gsub := h.gsub, par := h.par, fnew := h.fnew, frame := h.frame, defers := h.defers, size := h.size }

/-! ### Operands -/

theorem constOk_R {v : V} {u : Value} (h : constOk v u = true) (C : Ctx) : R C v u := by
  unfold constOk at h
  split at h
  · simp at h; subst h; exact .bool _
  · simp at h; obtain ⟨rfl, rfl⟩ := h; exact .int _ _
  · rename_i a b
    have : a = b := by
      cases a; cases b; simp at h; congr 1
    subst this; exact .str _
  · exact .nilp
  · exact .nilf
  · exact .nils _
  · exact .undef _
  · cases h

theorem Inv.ev (h : Inv E n C st a) {x : X} {y : Operand} (hx : okX x y = true) : R C (x.ev st) (a.eval y) := by
  unfold okX at hx
  split at hx
  · rename_i m k
    simp only [beq_iff_eq] at hx
    subst hx
    exact h.env m
  · rename_i f g
    simp only [beq_iff_eq] at hx
    subst hx
    exact .fn f [] [] [] [] rfl rfl (fun j c hj => by simp at hj) (fun j c hj => by simp at hj)
  · exact constOk_R hx C
  · cases hx

/-! ### The memory grows -/

structure Ext (w w' : World) : Prop where
  os : w'.os = w.os
  output : w'.output = w.output
  tape : w'.tape = w.tape
  size : w.heap.size ≤ w'.heap.size
  same : ∀ b, b < w.heap.size → w'.heap[b]? = w.heap[b]?

theorem Ext.refl (w : World) : Ext w w := ⟨rfl, rfl, rfl, Nat.le_refl _, fun _ _ => rfl⟩
theorem Ext.trans {w w' w'' : World} (h : Ext w w') (h' : Ext w' w'') : Ext w w'' :=
  ⟨h'.os.trans h.os, h'.output.trans h.output, h'.tape.trans h.tape, Nat.le_trans h.size h'.size, fun b hb => (h'.same b (Nat.lt_of_lt_of_le hb h.size)).trans (h.same b hb)⟩
theorem Ext.alloc (w : World) (o : Obj) : Ext w (w.alloc o) := ⟨rfl, rfl, rfl, by simp, fun b hb => heap_alloc_old w o b hb⟩
theorem Ext.drew (w : World) : Ext w w.drew := ⟨rfl, rfl, rfl, Nat.le_refl _, fun _ _ => rfl⟩
theorem Ext.cell {w w' : World} (h : Ext w w') {a : Addr} (ha : a.block < w.heap.size) : w'.cell? a = w.cell? a := World.cell?_of_block (h.same _ ha)

theorem sameBut_refl {W : Nat → Prop} (o : Option Obj) : sameBut W o o := by
  cases o with
  | none => rfl
  | some o => cases o <;> first | exact ⟨rfl, rfl, rfl, fun _ _ => rfl⟩ | rfl

theorem Frame.ext {w0 w w' : World} {W : Nat → Nat → Prop} (h : Frame w0 w W) (h' : Ext w w') : Frame w0 w' W :=
  ⟨h'.os.trans h.os, h'.output.trans h.output, h'.tape.trans h.tape, Nat.le_trans h.size h'.size, fun b hb => by
    rw [h'.same b (Nat.lt_of_lt_of_le hb h.size)]; exact h.same b hb⟩

theorem block_lt {w : World} {b : Nat} {o : Obj} (h : w.heap[b]? = some o) : b < w.heap.size := (Array.getElem?_eq_some_iff.1 h).1

theorem Compat.ext {w' : World} (h : Ext C.w w') (hfin : ∀ b off, C.F b off → b < C.w.heap.size) {p : Nat → Bool} : Compat p C { C with w := w' } :=
  ⟨fun b off hF => ⟨hF, h.cell (a := ⟨b, off, none⟩) (hfin b off hF)⟩, fun _ h => h, fun _ cs _ h => ⟨⟨cs, h⟩, rfl⟩, fun _ _ rs _ h => ⟨⟨rs, h, rfl⟩, rfl⟩⟩

/-- Objects stay as they are, where their blocks and what they lead to do. -/
theorem BoxOk.mono {C' : Ctx} {L : Loc} {cs : List V} (hc : Compat (fun _ => false) C C') (hb : C'.w.heap[L.blk]? = C.w.heap[L.blk]?)
    (hF : ∀ off, C'.F L.blk off → C.F L.blk off) (hG : C'.G L.blk → C.G L.blk) (h : BoxOk E C L cs) : BoxOk E C' L cs := by
  obtain ⟨⟨cur, e, g, h1, h2⟩, h3, h4⟩ := h
  refine ⟨⟨cur, e, g, hb.trans h1, fun j c hj => ?_⟩, fun j hj => ⟨fun hf => (h3 j hj).1 (hF _ hf), (h3 j hj).2⟩, h4.imp (fun h off hf => h off (hF _ hf)) (fun h hg => h (hG hg))⟩
  obtain ⟨a1, a2, a3⟩ := h2 j c hj
  exact ⟨a1, a2, a3.mono hc⟩

theorem RowsOk.mono {C' : Ctx} {L : Loc} {s : Nat} {rs : List (List V)} (hc : Compat (fun _ => false) C C') (hb : C'.w.heap[L.blk]? = C.w.heap[L.blk]?)
    (hF : ∀ off, C'.F L.blk off → C.F L.blk off) (h : RowsOk E C L s rs) : RowsOk E C' L s rs := by
  obtain ⟨h0, h1, h2, h3, ⟨cur, e, g, h4, h5, h6⟩, h7, h8⟩ := h
  refine ⟨h0, h1, h2, h3, ⟨cur, e, g, hb.trans h4, h5, fun i j c hij => ?_⟩, fun off => ⟨fun hf => (h7 off).1 (hF _ hf), (h7 off).2⟩, hc.G _ h8⟩
  obtain ⟨a1, a2, a3, a4⟩ := h6 i j c hij
  exact ⟨a1, a2, a3, a4.mono hc⟩

/-- An object that lives lies in memory. -/
theorem ObjOk.lt {r : Nat} (h : ObjOk E C r) {L : Loc} (hl : C.loc r = some L) (ha : (C.heap r).isDead = false) : L.blk < C.w.heap.size := by
  unfold ObjOk at h
  split at h
  · rename_i e; simp [e, AO.isDead] at ha
  · obtain ⟨L', hl', ⟨⟨cur, e, g, h1, _⟩, _⟩⟩ := h
    rw [hl] at hl'; cases hl'; exact block_lt h1
  · rcases h with ⟨_, h⟩ | ⟨L', hl', h⟩
    · rw [hl] at h; cases h
    · rw [hl] at hl'; cases hl'
      obtain ⟨_, _, _, _, ⟨cur, e, g, h4, _⟩, _⟩ := h
      exact block_lt h4

theorem ObjOk.mono {C' : Ctx} {r : Nat} (hc : Compat (fun _ => false) C C') (hh : C'.heap r = C.heap r) (hl : C'.loc r = C.loc r)
    (hb : ∀ L, C.loc r = some L → (C.heap r).isDead = false → C'.w.heap[L.blk]? = C.w.heap[L.blk]? ∧ (∀ off, C'.F L.blk off → C.F L.blk off) ∧ (C'.G L.blk → C.G L.blk))
    (h : ObjOk E C r) : ObjOk E C' r := by
  unfold ObjOk at h ⊢
  rw [hh, hl]
  split
  · trivial
  · rename_i cs e
    rw [e] at h
    obtain ⟨L, h1, h2⟩ := h
    obtain ⟨b1, b2, b3⟩ := hb L h1 (by rw [e]; rfl)
    exact ⟨L, h1, h2.mono hc b1 b2 b3⟩
  · rename_i s rs e
    rw [e] at h
    rcases h with h | ⟨L, h1, h2⟩
    · exact .inl h
    · obtain ⟨b1, b2, _⟩ := hb L h1 (by rw [e]; rfl)
      exact .inr ⟨L, h1, h2.mono hc b1 b2⟩

/-- The memory grows, and some of what is new is frozen. -/
theorem Inv.grow (h : Inv E n C st a) {w' : World} (hx : Ext C.w w') {F' : Nat → Nat → Prop} (hF : ∀ b off, C.F b off → F' b off)
    (hF' : ∀ b off, F' b off → C.F b off ∨ (C.w.heap.size ≤ b ∧ b < w'.heap.size)) : Inv E n { C with w := w', F := F' } st a := by
  have hc : Compat (fun _ => false) C { C with w := w', F := F' } :=
    ⟨fun b off hf => ⟨hF b off hf, hx.cell (a := ⟨b, off, none⟩) (h.fin b off hf)⟩, fun _ h => h, fun _ cs _ h => ⟨⟨cs, h⟩, rfl⟩, fun _ _ rs _ h => ⟨⟨rs, h, rfl⟩, rfl⟩⟩
  exact { heap := h.heap, env := fun t => (h.env t).mono hc
          objs := fun r => (h.objs r).mono hc rfl rfl fun L hl ha => by
            have hlt := (h.objs r).lt hl ha
            exact ⟨hx.same _ hlt, fun off hf => (hF' _ _ hf).resolve_right (fun ⟨h1, _⟩ => absurd hlt (Nat.not_lt.2 h1)), fun h => h⟩
          inj := h.inj
          fin := fun b off hf => by
            rcases hF' b off hf with hf | ⟨_, h2⟩
            · exact Nat.lt_of_lt_of_le (h.fin b off hf) hx.size
            · exact h2
          gnew := h.gnew, gsub := h.gsub, par := h.par
          fnew := fun b off hf => by
            rcases hF' b off hf with hf | ⟨h1, _⟩
            · exact h.fnew b off hf
            · exact .inr (h.gnew b (Nat.le_trans h.frame.size h1))
          frame := h.frame.ext hx, defers := h.defers, size := h.size }

theorem Inv.ext (h : Inv E n C st a) {w' : World} (hx : Ext C.w w') : Inv E n { C with w := w' } st a :=
  h.grow hx (fun _ _ h => h) (fun _ _ h => .inl h)

/-- Objects end, and all that leads to them. -/
theorem Inv.killP (h : Inv E n C st a) (p : Nat → Bool) : Inv E n { C with heap := fun i => if p i then .dead else (C.heap i).kill p } (st.killP p) a := by
  have hc : Compat p C { C with heap := fun i => if p i then .dead else (C.heap i).kill p } :=
    ⟨fun b off hf => ⟨hf, rfl⟩, fun _ h => h, fun r cs hp h => ⟨⟨cs.map (V.kill1 p), by simp [hp, h, AO.kill]⟩, rfl⟩, fun r s rs hp h => ⟨⟨rs, by simp [hp, h, AO.kill], rfl⟩, rfl⟩⟩
  have dead : ∀ r, (if p r then AO.dead else (C.heap r).kill p).isDead = false → p r = false ∧ (C.heap r).isDead = false := fun r hr => by
    cases hp : p r with
    | true => simp [hp, AO.isDead] at hr
    | false =>
      simp only [hp, Bool.false_eq_true, if_false] at hr
      refine ⟨rfl, ?_⟩
      cases hh : C.heap r with
      | dead => rw [hh] at hr; simp [AO.kill, AO.isDead] at hr
      | _ => rfl
  exact { heap := by simp [St.killP, h.heap]
          env := fun t => (h.env t).kill hc
          objs := fun r => by
            have ho := h.objs r
            unfold ObjOk at ho ⊢
            cases hp : p r with
            | true => simp [hp]
            | false =>
              simp only [hp, Bool.false_eq_true, if_false]
              cases hh : C.heap r with
              | dead => simp [AO.kill]
              | box cs =>
                rw [hh] at ho
                obtain ⟨L, h1, ⟨cur, e, g, h2, h3⟩, h4, h5⟩ := ho
                refine ⟨L, h1, ⟨cur, e, g, h2, fun j c hj => ?_⟩, fun j hj => h4 j (by simpa using hj), h5⟩
                simp only [List.getElem?_map, Option.map_eq_some_iff] at hj
                obtain ⟨c', hj', rfl⟩ := hj
                obtain ⟨a1, a2, a3⟩ := h3 j c' hj'
                exact ⟨a1, a2, a3.kill1 hc⟩
              | rows s rs =>
                rw [hh] at ho
                rcases ho with ho | ⟨L, h1, g0, g1, g2, g3, ⟨cur, e, g, g4, g5, g6⟩, g7, g8⟩
                · exact .inl ho
                · refine .inr ⟨L, h1, g0, g1, g2, g3, ⟨cur, e, g, g4, g5, fun i j c hij => ?_⟩, g7, g8⟩
                  obtain ⟨a1, a2, a3, a4⟩ := g6 i j c hij
                  refine ⟨a1, a2, a3, a4.of_closed ?_ ?_ a3⟩ <;> simp
          inj := fun r r' L L' hl hl' hr hr' hb => h.inj r r' L L' hl hl' (dead r hr).2 (dead r' hr').2 hb
          fin := h.fin, gnew := h.gnew, gsub := h.gsub, par := h.par, fnew := h.fnew, frame := h.frame, defers := h.defers, size := h.size }

theorem Inv.kills (h : Inv E n C st a) (l : List Nat) : ∃ C', Inv E n C' (st.kills l) a ∧ C'.w = C.w ∧ C'.F = C.F ∧ C'.G = C.G ∧ C'.loc = C.loc := by
  cases l with
  | nil => exact ⟨C, h, rfl, rfl, rfl, rfl⟩
  | cons k l => exact ⟨_, h.killP _, rfl, rfl, rfl, rfl⟩

/-- A new object, where none was. -/
theorem Inv.obj (h : Inv E n C st a) {r : Nat} (hr : (st.heap r).isDead = true) {o : AO} {L : Option Loc}
    (ho : ObjOk E { C with heap := upd C.heap r o, loc := upd C.loc r L } r)
    (hnew : ∀ L', L = some L' → ∀ r' L'', r' ≠ r → C.loc r' = some L'' → (C.heap r').isDead = false → L''.blk ≠ L'.blk) :
    Inv E n { C with heap := upd C.heap r o, loc := upd C.loc r L } (st.set r o) a := by
  have hd : C.heap r = .dead := by
    rw [h.heap]
    cases hh : st.heap r with
    | dead => rfl
    | _ => rw [hh] at hr; simp [AO.isDead] at hr
  have hc : Compat (fun _ => false) C { C with heap := upd C.heap r o, loc := upd C.loc r L } := by
    refine ⟨fun b off hf => ⟨hf, rfl⟩, fun _ h => h, fun r' cs _ h' => ?_, fun r' s rs _ h' => ?_⟩
    · have hne : r' ≠ r := fun e => by subst e; rw [hd] at h'; cases h'
      exact ⟨⟨cs, by simp [upd, hne, h']⟩, by simp [upd, hne]⟩
    · have hne : r' ≠ r := fun e => by subst e; rw [hd] at h'; cases h'
      exact ⟨⟨rs, by simp [upd, hne, h'], rfl⟩, by simp [upd, hne]⟩
  exact { heap := by simp [St.set, h.heap]
          env := fun t => (h.env t).mono hc
          objs := fun r' => by
            by_cases e : r' = r
            · subst e; exact ho
            · exact (h.objs r').mono hc (by simp [upd, e]) (by simp [upd, e]) fun L _ _ => ⟨rfl, fun _ h => h, fun h => h⟩
          inj := fun r1 r2 L1 L2 h1 h2 d1 d2 hb => by
            by_cases e1 : r1 = r
            · by_cases e2 : r2 = r
              · exact e1.trans e2.symm
              · exfalso
                simp only [upd, e1, if_true] at h1
                simp only [upd, e2, if_false] at h2 d2
                exact hnew L1 h1 r2 L2 e2 h2 d2 hb.symm
            · by_cases e2 : r2 = r
              · exfalso
                simp only [upd, e2, if_true] at h2
                simp only [upd, e1, if_false] at h1 d1
                exact hnew L2 h2 r1 L1 e1 h1 d1 hb
              · simp only [upd, e1, e2, if_false] at h1 h2 d1 d2
                exact h.inj r1 r2 L1 L2 h1 h2 d1 d2 hb
          fin := h.fin, gnew := h.gnew, gsub := h.gsub, par := h.par, fnew := h.fnew, frame := h.frame, defers := h.defers, size := h.size }

end Go.Ab
