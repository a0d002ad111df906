/-
  Each operation of the abstract machine is what the model's operation does: what makes memory.
-/
import Derived.Test.YtleilicpggnemaaMachS5
import Derived.Great.BuildSlice
namespace Go.Ab
open Go

variable {E : Ent} {n : Sz} {C : Ctx} {st : St} {a : Act} {P : Program}

/-- All that C holds, C' holds. -/
abbrev Le (C C' : Ctx) : Prop := Compat (fun _ => false) C C'

theorem Le.trans {C C' C'' : Ctx} (h : Le C C') (h' : Le C' C'') : Le C C'' :=
  ⟨fun b off hf => ⟨(h'.F b off (h.F b off hf).1).1, (h'.F b off (h.F b off hf).1).2.trans (h.F b off hf).2⟩, fun b hb => h'.G b (h.G b hb),
   fun r cs hp hr => by
    obtain ⟨⟨cs', h1⟩, h2⟩ := h.box r cs hp hr
    obtain ⟨h3, h4⟩ := h'.box r cs' hp h1
    exact ⟨h3, h4.trans h2⟩,
   fun r s rs hp hr => by
    obtain ⟨⟨rs', h1, h1'⟩, h2⟩ := h.rows r s rs hp hr
    obtain ⟨⟨rs2, h3, h3'⟩, h4⟩ := h'.rows r s rs' hp h1
    exact ⟨⟨rs2, h3, h3'.trans h1'⟩, h4.trans h2⟩⟩

theorem Inv.dead (h : Inv E n C st a) {r : Nat} (hr : (st.heap r).isDead = true) : C.heap r = .dead := by
  rw [h.heap]
  cases hh : st.heap r with
  | dead => rfl
  | _ => rw [hh] at hr; simp [AO.isDead] at hr

theorem Inv.le_grow (h : Inv E n C st a) {w' : World} (hx : Ext C.w w') {F' : Nat → Nat → Prop} (hF : ∀ b off, C.F b off → F' b off) : Le C { C with w := w', F := F' } :=
  ⟨fun b off hf => ⟨hF b off hf, hx.cell (a := ⟨b, off, none⟩) (h.fin b off hf)⟩, fun _ h => h, fun _ cs _ h => ⟨⟨cs, h⟩, rfl⟩, fun _ _ rs _ h => ⟨⟨rs, h, rfl⟩, rfl⟩⟩

theorem Inv.le_obj (h : Inv E n C st a) {r : Nat} (hr : (st.heap r).isDead = true) (o : AO) (L : Option Loc) : Le C { C with heap := upd C.heap r o, loc := upd C.loc r L } := by
  have hd := h.dead hr
  refine ⟨fun b off hf => ⟨hf, rfl⟩, fun _ h => h, fun r' cs _ h' => ?_, fun r' s rs _ h' => ?_⟩
  · have hne : r' ≠ r := fun e => by subst e; rw [hd] at h'; cases h'
    exact ⟨⟨cs, by simp [upd, hne, h']⟩, by simp [upd, hne]⟩
  · have hne : r' ≠ r := fun e => by subst e; rw [hd] at h'; cases h'
    exact ⟨⟨rs, by simp [upd, hne, h'], rfl⟩, by simp [upd, hne]⟩

/-- A new block beside all objects'. -/
theorem Inv.beside (h : Inv E n C st a) {b : Nat} (hb : C.w.heap.size ≤ b) : ∀ r' L'', C.loc r' = some L'' → (C.heap r').isDead = false → L''.blk ≠ b :=
  fun r' L'' hl ha e => by have := (h.objs r').lt hl ha; omega

/-- A variable in a new block. -/
theorem Inv.newBox (h : Inv E n C st a) {w' : World} (hx : Ext C.w w') {b : Nat} (hb : C.w.heap.size ≤ b) {cur : Array Value} {e : TypeId} (hcur : w'.heap[b]? = some (.cells cur e (0, 0)))
    {r : Nat} (hr : (st.heap r).isDead = true) {cs : List V} (hc : ∀ (j : Nat) (c : V), cs[j]? = some c → cur[j]? = some (cur.getD j undef) ∧ (cur.getD j undef).oneCell' = true ∧ R C c (cur.getD j undef)) :
    ∃ C', Inv E n C' (st.set r (.box cs)) a ∧ C'.w = w' ∧ R C' (.ptr r 0) (.pointer (some ⟨b, 0, none⟩)) ∧ Le C C' := by
  have h1 := h.ext hx
  have l1 := h.le_grow hx (F' := C.F) (fun _ _ h => h)
  have l2 := h1.le_obj hr (.box cs) (some ⟨b, 0, 0⟩)
  refine ⟨{ C with w := w', heap := upd C.heap r (.box cs), loc := upd C.loc r (some ⟨b, 0, 0⟩) }, h1.obj hr ?_ ?_, rfl, ?_, l1.trans l2⟩
  · unfold ObjOk
    simp only [upd, if_true]
    refine ⟨_, rfl, ⟨cur, e, fun j => cur.getD j undef, hcur, fun j c hj => ?_⟩, fun j _ => ⟨fun hf => ?_, .inl ?_⟩, .inl fun off hf => ?_⟩
    · obtain ⟨a1, a2, a3⟩ := hc j c hj
      exact ⟨by simpa using a1, a2, a3.mono (l1.trans l2)⟩
    · have := h.fin _ _ hf; simp only at this; omega
    · have := h.frame.size; simp only; omega
    · have := h.fin _ _ hf; simp only at this; omega
  · rintro L' hL' r' L'' _ hl ha
    cases hL'
    exact h.beside hb r' L'' hl ha
  · have : R { C with w := w', heap := upd C.heap r (.box cs), loc := upd C.loc r (some ⟨b, 0, 0⟩) } (.ptr r 0) (.pointer (some ⟨b, 0 + 0, none⟩)) :=
      .ptr r 0 cs ⟨b, 0, 0⟩ (by simp [upd]) (by simp [upd])
    simpa using this

/-- A row of elements in a new block. -/
structure NewRow (C : Ctx) (w' : World) (b cap s : Nat) (rows : List (List V)) : Prop where
  ext : Ext C.w w'
  new : C.w.heap.size ≤ b
  le : rows.length ≤ cap
  max : cap ≤ maxLen
  width : ∀ r ∈ rows, r.length = s
  cells : ∃ (cur : Array Value) (e : TypeId) (g : Nat → Nat → Value), w'.heap[b]? = some (.cells cur e (0, 0)) ∧ cur.size = cap * s ∧
    ∀ i j c, at2 rows i j = some c → cur[i * s + j]? = some (g i j) ∧ (g i j).oneCell' = true ∧ c.closed = true ∧ R C c (g i j)

/-- As an object. -/
theorem Inv.newRows (h : Inv E n C st a) {w' : World} {b cap s : Nat} {rows : List (List V)} (hw : NewRow C w' b cap s rows) {r : Nat} (hr : (st.heap r).isDead = true) :
    ∃ C', Inv E n C' (st.set r (.rows s rows)) a ∧ C'.w = w' ∧ R C' (.sref r 0 rows.length) (.slice (some ⟨b, 0, none⟩) rows.length cap) ∧ Le C C' := by
  have h1 := h.ext hw.ext
  have l1 := h.le_grow hw.ext (F' := C.F) (fun _ _ h => h)
  have l2 := h1.le_obj hr (.rows s rows) (some ⟨b, 0, cap⟩)
  obtain ⟨cur, e, g, hcur, hsz, hcell⟩ := hw.cells
  have hn := hw.new
  have hfs := h.frame.size
  refine ⟨{ C with w := w', heap := upd C.heap r (.rows s rows), loc := upd C.loc r (some ⟨b, 0, cap⟩) }, h1.obj hr ?_ ?_, rfl, ?_, l1.trans l2⟩
  · unfold ObjOk
    simp only [upd, if_true]
    refine .inr ⟨_, rfl, rfl, hw.le, hw.max, hw.width, ⟨cur, e, g, hcur, hsz, fun i j c hij => ?_⟩, fun off => ⟨fun hf => ?_, .inl ?_⟩, h.gnew b ?_⟩
    · obtain ⟨a1, a2, a3, a4⟩ := hcell i j c hij
      exact ⟨a1, a2, a3, a4.mono (l1.trans l2)⟩
    · have := h.fin _ _ hf; simp only at this; omega
    · simp only; omega
    · omega
  · rintro L' hL' r' L'' _ hl ha
    cases hL'
    exact h.beside hn r' L'' hl ha
  · have : R { C with w := w', heap := upd C.heap r (.rows s rows), loc := upd C.loc r (some ⟨b, 0, cap⟩) } (.sref r 0 rows.length) (.slice (some ⟨b, 0 * s, none⟩) rows.length (cap - 0)) :=
      .sref r 0 rows.length s rows ⟨b, 0, cap⟩ (by simp [upd]) (by simp [upd]) (by omega)
    simpa using this

/-- By value. -/
theorem Inv.newVal (h : Inv E n C st a) {w' : World} {b cap s : Nat} {rows : List (List V)} (hw : NewRow C w' b cap s rows) :
    ∃ C', Inv E n C' st a ∧ C'.w = w' ∧ R C' (.sl true s rows) (.slice (some ⟨b, 0, none⟩) rows.length cap) ∧ Le C C' := by
  obtain ⟨cur, e, g, hcur, hsz, hcell⟩ := hw.cells
  have hn := hw.new
  have hfs := h.frame.size
  have hF' : ∀ b' off, (C.F b' off ∨ b' = b) → C.F b' off ∨ (C.w.heap.size ≤ b' ∧ b' < w'.heap.size) := by
    rintro b' off (hf | rfl)
    · exact .inl hf
    · exact .inr ⟨hn, block_lt hcur⟩
  have l1 := h.le_grow hw.ext (F' := fun b' off => C.F b' off ∨ b' = b) (fun _ _ h => .inl h)
  refine ⟨_, h.grow hw.ext (F' := fun b' off => C.F b' off ∨ b' = b) (fun _ _ h => .inl h) hF', rfl, ?_, l1⟩
  refine .sl true s rows b 0 cap g hw.le hw.max hw.width (fun _ _ => h.gnew b (by omega)) (fun i j c hij => ?_) (fun i j c hij => (hcell i j c hij).2.2.1) (fun i j c hij => (hcell i j c hij).2.2.2.mono l1)
  obtain ⟨a1, a2, _, _⟩ := hcell i j c hij
  refine ⟨?_, .inr rfl, a2⟩
  simp only [Nat.zero_add]
  rw [cell_of_row _ _ _ _ _ _ hcur]
  exact a1

theorem Inv.mkSl (h : Inv E n C st a) {w' : World} {b cap s : Nat} {rows : List (List V)} (hw : NewRow C w' b cap s rows) {mode d : Option Nat} {K : St → Prop} (hk : newSl s rows mode d st K) :
    ∃ C' st' v, Inv E n C' st' a ∧ C'.w = w' ∧ R C' v (.slice (some ⟨b, 0, none⟩) rows.length cap) ∧ K (st'.put d v) := by
  cases mode with
  | none =>
    obtain ⟨C', h1, h2, h3, _⟩ := h.newVal hw
    exact ⟨C', st, _, h1, h2, h3, hk⟩
  | some r =>
    obtain ⟨h0, hk⟩ := hk
    obtain ⟨C', h1, h2, h3, _⟩ := h.newRows hw h0
    exact ⟨C', _, _, h1, h2, h3, hk⟩

/-- An object of a nil slice. -/
theorem Inv.newNil (h : Inv E n C st a) {s r : Nat} (hr : (st.heap r).isDead = true) :
    ∃ C', Inv E n C' (st.set r (.rows s [])) a ∧ C'.w = C.w ∧ R C' (.sref r 0 0) (.slice none 0 0) ∧ Le C C' := by
  have l2 := h.le_obj hr (.rows s []) none
  refine ⟨{ C with heap := upd C.heap r (.rows s []), loc := upd C.loc r none }, h.obj hr ?_ ?_, rfl, .srefNil r s (by simp [upd]) (by simp [upd]), l2⟩
  · unfold ObjOk
    simp [upd]
  · intro L' hL'; cases hL'

theorem Inv.mkSlNil (h : Inv E n C st a) {s : Nat} {mode d : Option Nat} {K : St → Prop} (hk : newSl s [] mode d st K) :
    ∃ C' st' v, Inv E n C' st' a ∧ C'.w = C.w ∧ R C' v (.slice none 0 0) ∧ K (st'.put d v) := by
  cases mode with
  | none => exact ⟨C, st, _, h, rfl, .slNil true s, hk⟩
  | some r =>
    obtain ⟨h0, hk⟩ := hk
    obtain ⟨C', h1, h2, h3, _⟩ := h.newNil (s := s) h0
    exact ⟨C', _, _, h1, h2, h3, hk⟩

/-! ### box, alloc, nil -/

theorem okOp_box {x : X} {r : Nat} {op : Op} (h : okOp P (.box x r) op = true) : ∃ t y, op = .box t y ∧ okX x y = true := by
  cases op with
  | box t y => exact ⟨t, y, rfl, by simpa [okOp] using h⟩
  | _ => simp [okOp] at h

theorem snd_box {x : X} {r : Nat} : Snd P (.box x r) := by
  intro E n C st a o d K next Q hinv hok hd h hn
  obtain ⟨t, y, hop, hx⟩ := okOp_box hok
  simp only [eff] at h
  obtain ⟨hv, hr, hK⟩ := h
  obtain ⟨hl, hc⟩ := R_cells (hinv.ev hx) hv
  obtain ⟨C', h1, h2, h3, _⟩ := hinv.newBox (Ext.alloc C.w (.cells (a.eval y).cells t)) (Nat.le_refl _) (heap_alloc_new C.w _) hr hc
  refine wp_value (u := .pointer (some ⟨C.w.heap.size, 0, none⟩)) (w' := C'.w) ?_ (hn C' _ _ (h1.put hd h3) hK)
  rw [h2]
  simp [execOp, hop, Instr.box, newVar, newRow]

theorem isNil_spec {y : Operand} (h : isNil y = true) : y = .const (.slice none 0 0) := by
  unfold isNil at h
  split at h
  · rfl
  · cases h

theorem okOp_nil {s r : Nat} {op : Op} (h : okOp P (.nil s r) op = true) : ∃ x, (op = .move x ∨ op = .assign x) ∧ x = .const (.slice none 0 0) := by
  cases op with
  | move y => exact ⟨y, .inl rfl, isNil_spec (by simpa [okOp] using h)⟩
  | assign y => exact ⟨y, .inr rfl, isNil_spec (by simpa [okOp] using h)⟩
  | _ => simp [okOp] at h

theorem snd_nil {s r : Nat} : Snd P (.nil s r) := by
  intro E n C st a o d K next Q hinv hok hd h hn
  obtain ⟨x, hop, rfl⟩ := okOp_nil hok
  simp only [eff] at h
  obtain ⟨C', h1, h2, h3, _⟩ := hinv.newNil (s := s) h.1
  rw [← h2]
  refine wp_value (u := .slice none 0 0) (w' := C'.w) ?_ (hn C' _ _ (h1.put hd h3) h.2)
  rcases hop with hop | hop <;> simp [execOp, hop, Act.eval]

/-! ### Slice literals, makes -/

theorem okDense_R (hinv : Inv E n C st a) : ∀ {k : Nat} {l : List X} {m : List (Nat × Operand)}, okDense k l m = true →
    m.map (fun p => (p.1, a.eval p.2)) = ((m.map (fun p => a.eval p.2)).zipIdx k).map (fun x => (x.2, x.1)) ∧ l.length = m.length ∧ ∀ (j : Nat) (x : X), l[j]? = some x → R C (x.ev st) ((m.map (fun p => a.eval p.2)).getD j undef)
  | _, [], [], _ => ⟨rfl, rfl, fun j x hx => by simp at hx⟩
  | _, [], _ :: _, h => by simp [okDense] at h
  | _, _ :: _, [], h => by simp [okDense] at h
  | k, x :: l, (i, y) :: m, h => by
    simp only [okDense, Bool.and_eq_true, beq_iff_eq] at h
    obtain ⟨⟨rfl, h1⟩, h2⟩ := h
    obtain ⟨e1, e2, e3⟩ := okDense_R hinv h2
    refine ⟨by simp [e1], by simp [e2], fun j x' hx => ?_⟩
    cases j with
    | zero => simp at hx; subst hx; simpa using hinv.ev h1
    | succ j => simpa using e3 j x' (by simpa using hx)

theorem zeroIs_spec {t : Nat} {f : Value → Bool} (h : zeroIs P t f = true) : ∃ i z, P.info? t = some i ∧ i.zero = some z ∧ f z = true := by
  unfold zeroIs at h
  cases hi : P.info? t with
  | none => simp [hi] at h
  | some i =>
    simp only [hi, Option.any_some] at h
    split at h
    · rename_i z hz; exact ⟨i, z, rfl, hz, h⟩
    · cases h

theorem okOp_bsl {s : Nat} {parts : List X} {mode : Option Nat} {op : Op} (h : okOp P (.bsl s parts mode) op = true) :
    ∃ t ps e i z, op = .buildSlice t parts.length ps ∧ P.underlying t = some (.slice e) ∧ P.info? e = some i ∧ i.size = s ∧ 0 < s ∧ i.zero = some z ∧ z.cells.size = s ∧ parts.length * s ≤ 16777216 ∧ okDense 0 parts ps.toList = true := by
  cases op with
  | buildSlice t len ps =>
    simp only [okOp, Bool.and_eq_true, beq_iff_eq, decide_eq_true_eq] at h
    obtain ⟨⟨⟨h1, rfl⟩, h2⟩, h3⟩ := h
    split at h1
    · rename_i e hu
      simp only [Bool.and_eq_true, decide_eq_true_eq] at h1
      obtain ⟨⟨h4, h5⟩, h6⟩ := h1
      obtain ⟨i, hi, hs⟩ := szOk_spec h4
      obtain ⟨i', z, hi', hz, hf⟩ := zeroIs_spec h6
      rw [hi] at hi'; cases hi'
      exact ⟨t, ps, e, i, z, rfl, hu, hi, hs, h5, hz, by simpa using hf, h2, h3⟩
    · cases h1
  | _ => simp [okOp] at h

theorem at2_lt {rows : List (List V)} {i j : Nat} {c : V} (h : at2 rows i j = some c) : ∃ hi : i < rows.length, rows[i][j]? = some c := by
  unfold at2 at h
  cases hr : rows[i]? with
  | none => simp [hr] at h
  | some r =>
    obtain ⟨hi, rfl⟩ := List.getElem?_eq_some_iff.1 hr
    exact ⟨hi, by simpa [hr] using h⟩

theorem div_of {i j s : Nat} (hj : j < s) : (i * s + j) / s = i ∧ (i * s + j) % s = j := by
  have hs : 0 < s := by omega
  constructor
  · rw [Nat.mul_comm, Nat.mul_add_div hs, Nat.div_eq_of_lt hj, Nat.add_zero]
  · rw [Nat.mul_comm, Nat.mul_add_mod, Nat.mod_eq_of_lt hj]

theorem snd_bsl {s : Nat} {parts : List X} {mode : Option Nat} : Snd P (.bsl s parts mode) := by
  intro E n C st a o d K next Q hinv hok hd h hn
  obtain ⟨t, ps, e, i, z, hop, hu, hi, hs, h0, hz, hzs, hsm, hden⟩ := okOp_bsl hok
  obtain ⟨e1, e2, e3⟩ := okDense_R hinv hden
  cases parts with
  | nil =>
    have hps : ps = #[] := by
      have : ps.toList = [] := List.eq_nil_of_length_eq_zero (by simpa using e2.symm)
      exact Array.toList_eq_nil_iff.1 this
    subst hps
    have hrun : (execOp a.eval o).run P C.w = .ok (.value (.slice (some ⟨C.w.heap.size, 0, none⟩) 0 0)) (C.w.alloc (.cells #[] e)) := by
      simp [execOp, hop, Instr.buildSlice, run_underlying hu, sizeOf, typeInfo, hi, Instr.fill, newRow]
      have e0 : Array.range 0 = #[] := Array.toList_eq_nil_iff.1 (by simp)
      rw [e0]
      simp
    simp only [eff] at h
    cases mode with
    | none =>
      refine wp_value hrun ?_
      exact hn { C with w := C.w.alloc (.cells #[] e) } _ _ ((hinv.ext (Ext.alloc C.w _)).put hd (.nilsSome s _ _)) h
    | some r =>
      have hnew : NewRow C (C.w.alloc (.cells #[] e)) C.w.heap.size 0 s [] :=
        ⟨Ext.alloc _ _, Nat.le_refl _, Nat.le_refl _, by simp [maxLen], by simp, #[], e, fun _ _ => undef, heap_alloc_new C.w _, by simp, fun i j c hij => by simp [at2] at hij⟩
      obtain ⟨C', h1, h2, h3, _⟩ := hinv.newRows hnew h.1
      rw [← h2] at hrun
      exact wp_value hrun (hn C' _ _ (h1.put hd h3) h.2)
  | cons p rest =>
    simp only [eff] at h
    obtain ⟨hall, h⟩ := h
    generalize hp : p :: rest = parts at *
    have hne : parts.length ≠ 0 := by rw [← hp]; simp
    have hpart : ∀ (j : Nat) (x : X), parts[j]? = some x → (x.ev st).val = true ∧ V.closedL (x.ev st).cells = true ∧ (x.ev st).cells.length = s := by
      intro j x hx
      have := List.all_eq_true.1 hall x (List.mem_of_getElem? hx)
      simpa [Bool.and_eq_true, and_assoc] using this
    have hlen : (ps.toList.map fun p => a.eval p.2).length = parts.length := by simpa using e2.symm
    have hcs : ∀ v ∈ ps.toList.map (fun p => a.eval p.2), v.cells.size = s := by
      intro v hv
      obtain ⟨j, hj⟩ := List.getElem?_of_mem hv
      have hlt : j < parts.length := by rw [← hlen]; exact (List.getElem?_eq_some_iff.1 hj).1
      have hx := List.getElem?_eq_getElem hlt
      obtain ⟨v1, v2, v3⟩ := hpart j _ hx
      have hr := e3 j _ hx
      have : (ps.toList.map fun p => a.eval p.2).getD j undef = v := by simp only [List.getD, hj, Option.getD_some]
      rw [this] at hr
      rw [← (R_cells hr v1).1]; exact v3
    obtain ⟨cur, hf, hsz, hk⟩ := Great.fill_dense h0 (ps.toList.map fun p => a.eval p.2) 0 ((Array.range (parts.length * s)).map (z.cells[· % z.cells.size]!)) hcs (by simp [hlen])
    have hrun : (Instr.buildSlice t parts.length (ps.map fun p => (p.1, a.eval p.2))).run P C.w = .ok (.slice (some ⟨C.w.heap.size, 0, none⟩) parts.length parts.length) (C.w.alloc (.cells cur e)) := by
      refine run_buildSlice C.w t e parts.length _ cur i z hu hi hz (by rw [hs]; omega) ?_ ?_
      · rw [hs]; intro h; rcases Nat.mul_eq_zero.1 h with h | h <;> omega
      · rw [hs]
        simp only [Array.toList_map]
        rw [e1]
        exact hf
    have hszc : cur.size = parts.length * s := by rw [hsz]; simp
    have hnew : NewRow C (C.w.alloc (.cells cur e)) C.w.heap.size parts.length s (parts.map fun p => (p.ev st).cells) := by
      refine ⟨Ext.alloc _ _, Nat.le_refl _, by simp, ?_, ?_, cur, e, fun i j => (((ps.toList.map fun p => a.eval p.2).getD i undef).cells.getD j undef), heap_alloc_new C.w _, hszc, fun i j c hij => ?_⟩
      · simp [maxLen]
        have : parts.length ≤ parts.length * s := Nat.le_mul_of_pos_right _ h0
        omega
      · intro r hr
        obtain ⟨x, hx, rfl⟩ := List.mem_map.1 hr
        obtain ⟨j, hj⟩ := List.getElem?_of_mem hx
        exact (hpart j x hj).2.2
      · obtain ⟨hi', hc⟩ := at2_lt hij
        simp only [List.length_map] at hi'
        simp only [List.getElem_map] at hc
        have hx := List.getElem?_eq_getElem hi'
        obtain ⟨v1, v2, v3⟩ := hpart i _ hx
        have hr := e3 i _ hx
        obtain ⟨r1, r2⟩ := R_cells hr v1
        obtain ⟨r3, r4, r5⟩ := r2 j c hc
        have hj : j < s := by rw [← v3]; exact (List.getElem?_eq_some_iff.1 hc).1
        obtain ⟨d1, d2⟩ := div_of (i := i) hj
        refine ⟨?_, r4, closedL_all v2 j c hc, r5⟩
        rw [hk, if_pos, d1, d2]
        · have : (ps.toList.map fun p => a.eval p.2)[i - 0]? = some ((ps.toList.map fun p => a.eval p.2).getD i undef) := by
            simp only [Nat.sub_zero, List.getD_eq_getElem?_getD]
            rw [List.getElem?_eq_getElem (by rw [hlen]; exact hi')]
            rfl
          rw [this]
          exact r3
        · refine ⟨by omega, ?_⟩
          rw [hlen, Nat.zero_add]
          have : i * s + s ≤ parts.length * s := by rw [← Nat.succ_mul]; exact Nat.mul_le_mul_right _ hi'
          omega
    obtain ⟨C', st', v, h1, h2, h3, h4⟩ := hinv.mkSl hnew h
    simp only [List.length_map] at h3
    refine wp_value (u := .slice (some ⟨C.w.heap.size, 0, none⟩) parts.length parts.length) (w' := C'.w) ?_ (hn C' _ _ (h1.put hd h3) h4)
    rw [h2]
    simp only [execOp, hop, Sem.run_bind]
    rw [show (ps.map fun (x : Nat × Operand) => match x with | (i, x) => (i, a.eval x)) = ps.map fun p => (p.1, a.eval p.2) from rfl, hrun]
    rfl

theorem okOp_mks {s bytes : Nat} {z : List V} {x : X} {mode : Option Nat} {op : Op} (h : okOp P (.mks s bytes z x mode) op = true) :
    ∃ t l c e i u, op = .makeSlice t l c ∧ P.underlying t = some (.slice e) ∧ P.info? e = some i ∧ i.size = s ∧ i.bytes = bytes ∧ 0 < s ∧ i.zero = some u ∧ zOk z u.cells.toList = true ∧ z.length = s ∧ V.closedL z = true ∧ (∀ v ∈ u.cells.toList, v.oneCell' = true) ∧ okX x l = true ∧ okX x c = true := by
  cases op with
  | makeSlice t l c =>
    simp only [okOp, Bool.and_eq_true] at h
    obtain ⟨⟨h1, h2⟩, h3⟩ := h
    split at h1
    · rename_i e hu
      cases hi : P.info? e with
      | none => simp [hi] at h1
      | some i =>
        simp only [hi, Option.any_some, Bool.and_eq_true, beq_iff_eq, decide_eq_true_eq] at h1
        obtain ⟨⟨⟨h4, h5⟩, h6⟩, h7⟩ := h1
        split at h7
        · rename_i u hz
          simp only [Bool.and_eq_true, beq_iff_eq] at h7
          obtain ⟨⟨⟨h8, h9⟩, h10⟩, h11⟩ := h7
          exact ⟨t, l, c, e, i, u, rfl, hu, hi, h4, h5, h6, hz, h8, h9, h10, fun v hv => Array.all_eq_true_iff_forall_mem.1 h11 v (by simpa using hv), h2, h3⟩
        · cases h7
    · cases h1
  | _ => simp [okOp] at h

theorem zOk_R : ∀ {l : List V} {m : List Value}, zOk l m = true → l.length = m.length ∧ ∀ (j : Nat) (c : V), l[j]? = some c → ∃ u, m[j]? = some u ∧ ∀ C : Ctx, R C c u
  | [], [], _ => ⟨rfl, fun j c hj => by simp at hj⟩
  | [], _ :: _, h => by simp [zOk] at h
  | _ :: _, [], h => by simp [zOk] at h
  | v :: l, u :: m, h => by
    simp only [zOk, Bool.and_eq_true] at h
    obtain ⟨e1, e2⟩ := zOk_R h.2
    refine ⟨by simp [e1], fun j c hj => ?_⟩
    cases j with
    | zero => simp at hj; subst hj; exact ⟨u, rfl, constOk_R h.1⟩
    | succ j => simpa using e2 j c (by simpa using hj)

theorem at2_replicate {k i j : Nat} {z : List V} {c : V} (h : at2 (List.replicate k z) i j = some c) : i < k ∧ z[j]? = some c := by
  obtain ⟨h1, h2⟩ := at2_lt h
  simp only [List.length_replicate] at h1
  exact ⟨h1, by simpa using h2⟩

theorem snd_mks {s bytes : Nat} {z : List V} {x : X} {mode : Option Nat} : Snd P (.mks s bytes z x mode) := by
  intro E n C st a o d K next Q hinv hok hd h hn
  obtain ⟨t, l, c, e, i, u, hop, hu, hi, hs, hb, h0, hz, hzo, hzl, hzc, hz1, hl, hc⟩ := okOp_mks hok
  obtain ⟨zl, zr⟩ := zOk_R hzo
  have hL := hinv.ev hl
  have hC := hinv.ev hc
  simp only [eff] at h
  split at h
  · rename_i m ex
    rw [ex] at hL hC
    have hL := R_int hL
    have hC := R_int hC
    obtain ⟨m0, m1, m2, h⟩ := h
    obtain ⟨k, rfl⟩ := Int.eq_ofNat_of_zero_le m0
    simp only [Int.toNat_natCast] at h
    have hsz : u.cells.size = s := by rw [← hzl, zl]; simp
    have hw : IntKind.i64.wrap (k : Int) = k := by
      unfold IntKind.wrap IntKind.signed IntKind.bits
      simp only [Bool.true_and, decide_eq_true_eq]
      omega
    let cur : Array Value := (Array.range (k * s)).map (u.cells[· % u.cells.size]!)
    have hrun : (execOp a.eval o).run P C.w = .ok (.value (.slice (some ⟨C.w.heap.size, 0, none⟩) k k)) (C.w.alloc (.cells cur e)) := by
      have n1 : ¬ ((k : Int) < 0) := by omega
      have n2 : ¬ ((281474976710656 : Int) < bytes * (k : Int)) := by omega
      by_cases hk : k = 0
      · subst hk
        have e0 : cur = #[] := by simp only [cur, Nat.zero_mul]; exact Array.toList_eq_nil_iff.1 (by simp)
        rw [e0]
        have hw0 : IntKind.i64.wrap 0 = 0 := hw
        have e1 : Array.range 0 = #[] := Array.toList_eq_nil_iff.1 (by simp)
        simp [execOp, hop, hL, hC, Instr.makeSlice, run_underlying hu, asInt, asIntOf, typeInfo, hi, hw0, sizeOf, newRow, e1]
      · have hks : k * s ≠ 0 := by intro h; rcases Nat.mul_eq_zero.1 h with h | h <;> omega
        simp [execOp, hop, hL, hC, Instr.makeSlice, run_underlying hu, asInt, asIntOf, typeInfo, hi, hb, hw, n1, n2, sizeOf, hs, hks, zeroValue, hz, newRow, cur]
    have hnew : NewRow C (C.w.alloc (.cells cur e)) C.w.heap.size k s (List.replicate k z) := by
      refine ⟨Ext.alloc _ _, Nat.le_refl _, by simp, by simp [maxLen]; omega, fun r hr => by rw [(List.mem_replicate.1 hr).2]; exact hzl, cur, e, fun _ j => u.cells.getD j undef, heap_alloc_new C.w _, by simp [cur], fun i j c hij => ?_⟩
      obtain ⟨h1, h2⟩ := at2_replicate hij
      obtain ⟨v, hv, hr⟩ := zr j c h2
      have hj : j < s := by rw [← hzl]; exact (List.getElem?_eq_some_iff.1 h2).1
      obtain ⟨d1, d2⟩ := div_of (i := i) hj
      have hv' : u.cells.getD j undef = v := by
        rw [Array.getElem?_toList] at hv
        simp [Array.getD_eq_getD_getElem?, hv]
      dsimp only
      rw [hv']
      refine ⟨?_, hz1 v (List.mem_of_getElem? hv), closedL_all hzc j c h2, hr _⟩
      have hlt : i * s + j < k * s := by
        have : i * s + s ≤ k * s := by rw [← Nat.succ_mul]; exact Nat.mul_le_mul_right _ h1
        omega
      have hju : j < u.cells.size := by omega
      simp only [cur, Array.getElem?_map, Array.getElem?_range, hlt, if_true, Option.map_some, hsz, d2]
      rw [Array.getElem?_toList] at hv
      simp [getElem!_def, hv]
    obtain ⟨C', st', v, h1, h2, h3, h4⟩ := hinv.mkSl hnew h
    simp only [List.length_replicate] at h3
    rw [← h2] at hrun
    exact wp_value hrun (hn C' _ _ (h1.put hd h3) h4)
  · exact h.elim

end Go.Ab
