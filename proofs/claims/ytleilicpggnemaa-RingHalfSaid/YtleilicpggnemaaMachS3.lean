/-
  Each operation of the abstract machine is what the model's operation does: reading.
-/
import Derived.Test.YtleilicpggnemaaMachS2
namespace Go.Ab
open Go

variable {E : Ent} {n : Sz} {C : Ctx} {st : St} {a : Act} {P : Program}

theorem wp_value {o : Oper} {w w' : World} {u : Value} {next : Act → World → Prop} {Q : Exit → Act → World → Prop}
    (h : (execOp a.eval o).run P w = .ok (.value u) w') (hk : next (a.put o.dst u) w') : o.wp P a w next Q := by
  unfold Oper.wp; rw [h]; exact hk

theorem wp_skip' {o : Oper} {w w' : World} {next : Act → World → Prop} {Q : Exit → Act → World → Prop}
    (h : (execOp a.eval o).run P w = .ok .skip w') (hk : next (a.put o.dst undef) w') : o.wp P a w next Q := by
  unfold Oper.wp; rw [h]; exact hk

/-! ### Cells -/

theorem R_one {v : V} {u : Value} (h : R C v u) (hne : ∀ cs, v ≠ .agg cs) (hv : v.val = true) : u.oneCell' = true ∧ u.cells = #[u] := by
  cases h <;> first | (simp [V.val] at hv; done) | (simp [Value.oneCell', Value.cells]; done) | exact absurd rfl (hne _)

theorem val_cells {v : V} (hne : ∀ cs, v ≠ .agg cs) : v.cells = [v] := by
  cases v <;> first | rfl | exact absurd rfl (hne _)

theorem R_cells {v : V} {u : Value} (h : R C v u) (hv : v.val = true) :
    v.cells.length = u.cells.size ∧ ∀ (j : Nat) (c : V), v.cells[j]? = some c → u.cells[j]? = some (u.cells.getD j undef) ∧ (u.cells.getD j undef).oneCell' = true ∧ R C c (u.cells.getD j undef) := by
  by_cases hagg : ∃ cs, v = .agg cs
  · obtain ⟨cs, rfl⟩ := hagg
    cases h with
    | agg cs us hl h1 hr =>
      refine ⟨by simpa [V.cells, Value.cells] using hl, fun j c hj => ?_⟩
      simp only [V.cells] at hj
      have hlt : j < us.length := by rw [← hl]; exact (List.getElem?_eq_some_iff.1 hj).1
      have e : (Value.agg us.toArray).cells.getD j undef = us.getD j undef := by simp [Value.cells, Array.getD_eq_getD_getElem?]
      rw [e]
      have e2 : us.getD j undef = us[j] := by simp [hlt]
      refine ⟨?_, ?_, hr j c hj⟩
      · rw [e2]; simp [Value.cells, hlt]
      · rw [e2]; exact h1 _ (List.getElem_mem hlt)
  · have hne : ∀ cs, v ≠ .agg cs := fun cs e => hagg ⟨cs, e⟩
    obtain ⟨h1, h2⟩ := R_one h hne hv
    rw [val_cells hne, h2]
    refine ⟨rfl, fun j c hj => ?_⟩
    cases j with
    | zero => simp at hj; subst hj; simp only [Array.getD]; exact ⟨rfl, h1, h⟩
    | succ j => simp at hj

/-- n cells that read as cs lie at a place. -/
def View (C : Ctx) (b o : Nat) (cs : List V) : Prop :=
  ∃ vals : List Value, vals.length = cs.length ∧ C.w.rangeAt b o vals ∧ (∀ u ∈ vals, u.oneCell' = true) ∧ ∀ (j : Nat) (c : V), cs[j]? = some c → R C c (vals.getD j undef)

theorem getElem?_seg {l : List V} {off k j : Nat} {c : V} (h : ((l.drop off).take k)[j]? = some c) : l[off + j]? = some c ∧ j < k := by
  rw [List.getElem?_take] at h
  split at h
  · rename_i hj; rw [List.getElem?_drop] at h; exact ⟨h, hj⟩
  · cases h

theorem view_of {b o off k : Nat} {cs : List V} (hoff : off + k ≤ cs.length) (g : Nat → Value)
    (hg : ∀ (j : Nat) (c : V), cs[j]? = some c → C.w.cell? ⟨b, o + j, none⟩ = some (g j) ∧ (g j).oneCell' = true ∧ R C c (g j)) :
    View C b (o + off) ((cs.drop off).take k) := by
  have hlen : ((cs.drop off).take k).length = k := by simp; omega
  have hat : ∀ j, j < k → ∃ c, cs[off + j]? = some c := fun j hj => ⟨cs[off + j], List.getElem?_eq_getElem (by omega)⟩
  refine ⟨(List.range k).map fun j => g (off + j), by simp; omega, fun j v hv => ?_, fun u hu => ?_, fun j c hj => ?_⟩
  · simp only [List.getElem?_map, Option.map_eq_some_iff] at hv
    obtain ⟨i, hi, rfl⟩ := hv
    have hi' := List.getElem?_eq_some_iff.1 hi
    obtain ⟨hlt, rfl⟩ := hi'
    simp only [List.length_range] at hlt
    obtain ⟨c, hc⟩ := hat j hlt
    have := (hg _ c hc).1
    simpa [Nat.add_assoc] using this
  · simp only [List.mem_map, List.mem_range] at hu
    obtain ⟨j, hj, rfl⟩ := hu
    obtain ⟨c, hc⟩ := hat j hj
    exact (hg _ c hc).2.1
  · obtain ⟨h1, h2⟩ := getElem?_seg hj
    have : ((List.range k).map fun j => g (off + j)).getD j undef = g (off + j) := by simp [h2]
    rw [this]
    exact (hg _ c h1).2.2

theorem szOk_spec {t k : Nat} (h : szOk P t k = true) : ∃ i, P.info? t = some i ∧ i.size = k := by
  unfold szOk at h
  cases hi : P.info? t with
  | none => simp [hi] at h
  | some i => simp [hi] at h; exact ⟨i, rfl, h⟩

theorem rowOk_spec {t : Nat} {b : Bool} (h : rowOk P t b = true) : ∃ d, P.underlying t = some d ∧ d.isRow = b := by
  unfold rowOk at h
  cases hu : P.underlying t with
  | none => simp [hu] at h
  | some d => rw [hu] at h; refine ⟨d, rfl, ?_⟩; cases d <;> simp_all

theorem run_isAgg {t : TypeId} {d : TypeDesc} (hu : P.underlying t = some d) (w : World) : (isAgg t).run P w = .ok d.isRow w := by
  unfold isAgg
  rw [Sem.run_bind, run_underlying hu w]
  cases d <;> rfl

theorem run_loadAt {t k : Nat} {agg : Bool} {b o : Nat} {cs : List V} (hs : szOk P t k = true) (hr : rowOk P t agg = true) (ha : (agg || k == 1) = true)
    (hk : cs.length = k) (hv : View C b o cs) : ∃ u, (Instr.loadAt t (.pointer (some ⟨b, o, none⟩))).run P C.w = .ok u C.w ∧ R C (if agg then .agg cs else cs.getD 0 .undef) u := by
  obtain ⟨vals, h1, h2, h3, h4⟩ := hv
  obtain ⟨i, hi, hsz⟩ := szOk_spec hs
  obtain ⟨d, hu, hd⟩ := rowOk_spec hr
  cases agg with
  | true =>
    refine ⟨.agg vals.toArray, ?_, .agg cs vals h1.symm h3 h4⟩
    exact run_loadAt_mid C.w b o t vals d h2 hu hd (by simp [hi, hsz, h1, hk])
  | false =>
    simp only [Bool.false_or, beq_iff_eq] at ha
    subst ha
    obtain ⟨c, rfl⟩ := List.length_eq_one_iff.1 hk
    obtain ⟨x, rfl⟩ := List.length_eq_one_iff.1 (h1.trans hk)
    have hx := h2 0 x rfl
    have hr := h4 0 c rfl
    refine ⟨x, ?_, by simpa using hr⟩
    simp only [Nat.add_zero] at hx
    simp [Instr.loadAt, Instr.sureAddr, loadVar, run_isAgg hu, hd, hx]

/-- What a pointer leads to. -/
theorem Inv.view (h : Inv E n C st a) {p : V} {u : Value} (hp : R C p u) {off k : Nat} {cs : List V}
    (hcs : (∃ r, p = .ptr r off ∧ C.heap r = .box cs ∧ off + k ≤ cs.length) ∨ (∃ r i s rs, p = .rptr r i off ∧ C.heap r = .rows s rs ∧ cs = rs.getD i [] ∧ off + k ≤ s) ∨ (p = .cp cs off ∧ off + k ≤ cs.length)) :
    ∃ b o, u = .pointer (some ⟨b, o, none⟩) ∧ View C b o ((cs.drop off).take k) ∧ off + k ≤ cs.length := by
  rcases hcs with ⟨r, rfl, hr, hk⟩ | ⟨r, i, s, rs, rfl, hr, rfl, hk⟩ | ⟨rfl, hk⟩
  · cases hp with
    | ptr _ _ cs' L h' hl =>
      have ho := h.objs r
      unfold ObjOk at ho
      rw [hr] at ho
      obtain ⟨L', hl', ⟨cur, e, g, h1, h2⟩, _⟩ := ho
      rw [hl] at hl'; cases hl'
      refine ⟨_, _, rfl, view_of hk g fun j c hj => ?_, hk⟩
      obtain ⟨a1, a2, a3⟩ := h2 j c hj
      exact ⟨by rw [cell_of_row _ _ _ _ _ _ h1]; exact a1, a2, a3⟩
  · cases hp with
    | rptr _ _ _ s' rs' L h' hl hi =>
      rw [hr] at h'
      cases h'
      have ho := h.objs r
      unfold ObjOk at ho
      rw [hr] at ho
      rcases ho with ⟨_, ho⟩ | ⟨L', hl', g0, g1, g2, g3, ⟨cur, e, g, h1, hsz, h2⟩, _⟩
      · rw [hl] at ho; cases ho
      rw [hl] at hl'; cases hl'
      have hrow : rs.getD i [] = rs[i] := by simp [hi]
      have hlen : (rs.getD i []).length = s := by rw [hrow]; exact g3 _ (List.getElem_mem hi)
      refine ⟨_, _, rfl, view_of (hlen ▸ hk) (fun j => g i j) fun j c hj => ?_, hlen ▸ hk⟩
      obtain ⟨a1, a2, _, a3⟩ := h2 i j c (by unfold at2; rw [List.getElem?_eq_getElem hi]; simpa [hi] using hj)
      exact ⟨by rw [cell_of_row _ _ _ _ _ _ h1]; exact a1, a2, a3⟩
  · cases hp with
    | cp _ _ b base g hcell hcl hr =>
      refine ⟨_, _, rfl, view_of hk g fun j c hj => ?_, hk⟩
      obtain ⟨a1, a2, a3⟩ := hcell j c hj
      exact ⟨a1, a3, hr j c hj⟩

theorem pickc_R {agg : Bool} {k off : Nat} {cs : List V} {u : Value} (ha : (agg || k == 1) = true) (hk : off + k ≤ cs.length)
    (h : R C (if agg then .agg ((cs.drop off).take k) else ((cs.drop off).take k).getD 0 .undef) u) : R C (pickc agg k off cs) u := by
  unfold pickc
  cases agg with
  | true => exact h
  | false =>
    simp only [Bool.false_or, beq_iff_eq] at ha
    subst ha
    simpa [List.getElem?_take, List.getElem?_drop] using h

theorem run_load_op {o : Oper} {agg : Bool} {k : Nat} {x : X} {d : Option Nat} {K : St → Prop} {next : Act → World → Prop} {Q : Exit → Act → World → Prop}
    (hinv : Inv E n C st a) (hok : okOp P (.load agg k x) o.op = true) (hd : okDst n d o.dst = true) (h : eff P (.load agg k x) d st K)
    (hn : ∀ C' st' a', Inv E n C' st' a' → K st' → next a' C'.w) : o.wp P a C.w next Q := by
  cases hop : o.op <;> rw [hop] at hok <;> simp only [okOp, Bool.and_eq_true, Bool.false_eq_true] at hok
  rename_i t y
  obtain ⟨⟨⟨h1, h2⟩, h3⟩, h4⟩ := hok
  have hR := hinv.ev h4
  have key : ∀ (off : Nat) (cs : List V), (∃ b o, a.eval y = .pointer (some ⟨b, o, none⟩) ∧ View C b o ((cs.drop off).take k) ∧ off + k ≤ cs.length) → K (st.put d (pickc agg k off cs)) → o.wp P a C.w next Q := by
    rintro off cs ⟨b, p, hu, hv, hl⟩ hK
    obtain ⟨u, hrun, hRu⟩ := run_loadAt h1 h2 h3 (by simp; omega) hv
    refine wp_value (u := u) (w' := C.w) ?_ ?_
    · simp [execOp, hop, hu, hrun]
    · exact hn C _ _ (hinv.put hd (pickc_R h3 hl hRu)) hK
  simp only [eff] at h
  split at h
  · rename_i r off hx
    split at h
    · rename_i cs hh
      exact key off cs (hinv.view hR (.inl ⟨r, hx, by rw [hinv.heap]; exact hh, h.1⟩)) h.2
    · exact h.elim
  · rename_i r i off hx
    split at h
    · rename_i s rs hh
      exact key off _ (hinv.view hR (.inr (.inl ⟨r, i, s, rs, hx, by rw [hinv.heap]; exact hh, rfl, h.1⟩))) h.2
    · exact h.elim
  · rename_i cs off hx
    exact key off cs (hinv.view hR (.inr (.inr ⟨hx, h.1⟩))) h.2
  · exact h.elim

end Go.Ab
