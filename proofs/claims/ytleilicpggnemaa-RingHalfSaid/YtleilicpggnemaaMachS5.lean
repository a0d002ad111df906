/-
  Each operation of the abstract machine is what the model's operation does: places, parts, lengths, slices.
-/
import Derived.Test.YtleilicpggnemaaMachS4
namespace Go.Ab
open Go

variable {E : Ent} {n : Sz} {C : Ctx} {st : St} {a : Act} {P : Program}

theorem addr_add (b o k : Nat) : (⟨b, o, none⟩ : Addr).add k = ⟨b, o + k, none⟩ := Addr.add_mid b o k

theorem okOp_faddr {off : Nat} {x : X} {op : Op} (h : okOp P (.faddr off x) op = true) :
    ∃ t y f fs fd i, op = .fieldAddr t y f ∧ P.underlying t = some (.struct fs) ∧ fs[f]? = some fd ∧ fd.offset = off ∧ P.info? fd.type = some i ∧ i.size ≠ 0 ∧ okX x y = true := by
  cases op with
  | fieldAddr t y f =>
    simp only [okOp, Bool.and_eq_true] at h
    obtain ⟨h1, h2⟩ := h
    split at h1
    · rename_i fs hu
      split at h1
      · rename_i fd hf
        simp only [Bool.and_eq_true, beq_iff_eq] at h1
        cases hi : P.info? fd.type with
        | none => simp [hi] at h1
        | some i => simp [hi] at h1; exact ⟨t, y, f, fs, fd, i, rfl, hu, hf, h1.1, hi, h1.2, h2⟩
      · cases h1
    · cases h1
  | _ => simp [okOp] at h

theorem run_fieldAt {t f off b o : Nat} {fs : Array Field} {fd : Field} {i : TypeInfo} (hu : P.underlying t = some (.struct fs)) (hf : fs[f]? = some fd) (ho : fd.offset = off) (hi : P.info? fd.type = some i) (h0 : i.size ≠ 0) (w : World) :
    (Instr.fieldAt t (.pointer (some ⟨b, o, none⟩)) f).run P w = .ok (.pointer (some ⟨b, o + off, none⟩)) w := by
  simp [Instr.fieldAt, run_underlying hu, hf, Instr.sureAddr, fieldPlace, sizeOf, typeInfo, hi, h0, ho, addr_add]

theorem snd_faddr {off : Nat} {x : X} : Snd P (.faddr off x) := by
  intro E n C st a o d K next Q hinv hok hd h hn
  obtain ⟨t, y, f, fs, fd, i, hop, hu, hf, ho, hi, h0, hx⟩ := okOp_faddr hok
  have hR := hinv.ev hx
  have fin : ∀ (b p : Nat) (v : V), a.eval y = .pointer (some ⟨b, p, none⟩) → R C v (.pointer (some ⟨b, p + off, none⟩)) → K (st.put d v) → o.wp P a C.w next Q := by
    intro b p v hp hv hK
    refine wp_value (w' := C.w) ?_ (hn C _ _ (hinv.put hd hv) hK)
    simp [execOp, hop, hp, run_fieldAt hu hf ho hi h0]
  simp only [eff] at h
  split at h
  · rename_i r p e
    rw [e] at hR
    generalize hev : a.eval y = u at hR
    cases hR with
    | ptr _ _ cs L h1 h2 => exact fin _ _ _ hev (by rw [Nat.add_assoc]; exact .ptr r (p + off) cs L h1 h2) h
  · rename_i r i' p e
    rw [e] at hR
    generalize hev : a.eval y = u at hR
    cases hR with
    | rptr _ _ _ s rs L h1 h2 h3 => exact fin _ _ _ hev (by rw [Nat.add_assoc]; exact .rptr r i' (p + off) s rs L h1 h2 h3) h
  · rename_i cs p e
    rw [e] at hR
    generalize hev : a.eval y = u at hR
    cases hR with
    | cp _ _ b base g h1 h2 h3 => exact fin _ _ _ hev (by rw [Nat.add_assoc]; exact .cp cs (p + off) b base g h1 h2 h3) h
  · exact h.elim

theorem okOp_iaddr {s : Nat} {len : Option Nat} {x i : X} {op : Op} (h : okOp P (.iaddr s len x i) op = true) :
    ∃ t y j e, op = .indexAddr t y j ∧ ((len = none ∧ P.underlying t = some (.slice e)) ∨ (∃ l, len = some l ∧ P.underlying t = some (.array l e))) ∧ szOk P e s = true ∧ okX x y = true ∧ okX i j = true := by
  cases op with
  | indexAddr t y j =>
    simp only [okOp, Bool.and_eq_true] at h
    obtain ⟨⟨h1, h2⟩, h3⟩ := h
    split at h1
    · rename_i e hu; exact ⟨t, y, j, e, rfl, .inl ⟨rfl, hu⟩, h1, h2, h3⟩
    · rename_i l e l' hu
      simp only [Bool.and_eq_true, beq_iff_eq] at h1
      obtain ⟨rfl, h1⟩ := h1
      exact ⟨t, y, j, e, rfl, .inr ⟨l, rfl, hu⟩, h1, h2, h3⟩
    · cases h1
  | _ => simp [okOp] at h

theorem run_indexAt_slice {t e s b o len cap : Nat} {k : IntKind} {m : Int} (hu : P.underlying t = some (.slice e)) (hs : szOk P e s = true) (h0 : 0 ≤ m) (h1 : m.toNat < len) (w : World) :
    (Instr.indexAt t (.slice (some ⟨b, o, none⟩) len cap) (.int k m)).run P w = .ok (.pointer (some ⟨b, o + m.toNat * s, none⟩)) w := by
  obtain ⟨i, hi, hsz⟩ := szOk_spec hs
  have h2 : m < (len : Int) := by omega
  simp [Instr.indexAt, asIntOf, run_underlying hu, h0, h2, sizeOf, typeInfo, hi, hsz, addr_add]

theorem run_indexAt_array {t e s b o l : Nat} {k : IntKind} {m : Int} (hu : P.underlying t = some (.array l e)) (hs : szOk P e s = true) (h0 : 0 ≤ m) (h1 : m.toNat < l) (w : World) :
    (Instr.indexAt t (.pointer (some ⟨b, o, none⟩)) (.int k m)).run P w = .ok (.pointer (some ⟨b, o + m.toNat * s, none⟩)) w := by
  obtain ⟨i, hi, hsz⟩ := szOk_spec hs
  have h2 : m < (l : Int) := by omega
  simp [Instr.indexAt, asIntOf, run_underlying hu, h0, h2, sizeOf, typeInfo, hi, hsz, addr_add, Instr.sureAddr]

theorem at2_some {rows : List (List V)} {i j : Nat} {c : V} (hi : i < rows.length) (h : (rows.getD i [])[j]? = some c) : at2 rows i j = some c := by
  unfold at2; rw [List.getElem?_eq_getElem hi]; simpa [hi] using h

theorem snd_iaddr {s : Nat} {len : Option Nat} {x i : X} : Snd P (.iaddr s len x i) := by
  intro E n C st a o d K next Q hinv hok hd h hn
  obtain ⟨t, y, j, e, hop, hu, hs, hx, hi⟩ := okOp_iaddr hok
  have hR := hinv.ev hx
  have hI := hinv.ev hi
  simp only [eff] at h
  split at h
  · rename_i k m ei
    rw [ei] at hI
    have hI := R_int hI
    rcases hu with ⟨rfl, hu⟩ | ⟨l, rfl, hu⟩
    · have fin : ∀ (b p len cap : Nat) (v : V), a.eval y = .slice (some ⟨b, p, none⟩) len cap → 0 ≤ m → m.toNat < len → R C v (.pointer (some ⟨b, p + m.toNat * s, none⟩)) → K (st.put d v) → o.wp P a C.w next Q := by
        intro b p len cap v hp h0 h1 hv hK
        refine wp_value (w' := C.w) ?_ (hn C _ _ (hinv.put hd hv) hK)
        simp [execOp, hop, hp, hI, run_indexAt_slice hu hs h0 h1]
      dsimp only at h
      split at h
      · rename_i f s' rows ex
        rw [ex] at hR
        obtain ⟨rfl, h0, h1, h⟩ := h
        generalize hev : a.eval y = u at hR
        cases hR with
        | slNil _ _ => simp at h1
        | sl _ _ _ b base cap g hc hm hu' hfr hcell hcl hr =>
          refine fin _ _ _ _ _ hev h0 h1 ?_ h
          refine .cp _ 0 b (base + m.toNat * s') (fun j => g m.toNat j) (fun j c hj => ?_) (fun j c hj => hcl _ _ _ (at2_some h1 hj)) (fun j c hj => hr _ _ _ (at2_some h1 hj))
          exact hcell _ _ _ (at2_some h1 hj)
      · rename_i r j' m' ex
        rw [ex] at hR
        split at h
        · rename_i s' rs hh
          obtain ⟨rfl, h0, h1, h⟩ := h
          rw [← hinv.heap] at hh
          generalize hev : a.eval y = u at hR
          cases hR with
          | sref _ _ _ s2 rs2 L g1 g2 g3 =>
            rw [hh] at g1; cases g1
            refine fin _ _ _ _ _ hev h0 h1 ?_ h
            rw [← Nat.add_mul]
            exact .rptr r (j' + m.toNat) 0 s' rs L hh g2 (by omega)
          | srefNil _ _ g1 g2 => simp at h1
          | srefZ _ _ _ _ _ g1 g2 => simp at h1
        · exact h.elim
      · exact h.elim
    · dsimp only at h
      obtain ⟨h0, h1, h⟩ := h
      have fin : ∀ (b p : Nat) (v : V), a.eval y = .pointer (some ⟨b, p, none⟩) → R C v (.pointer (some ⟨b, p + m.toNat * s, none⟩)) → K (st.put d v) → o.wp P a C.w next Q := by
        intro b p v hp hv hK
        refine wp_value (w' := C.w) ?_ (hn C _ _ (hinv.put hd hv) hK)
        simp [execOp, hop, hp, hI, run_indexAt_array hu hs h0 h1]
      split at h
      · rename_i r p ex
        rw [ex] at hR
        generalize hev : a.eval y = u at hR
        cases hR with
        | ptr _ _ cs L h1 h2 => exact fin _ _ _ hev (by rw [Nat.add_assoc]; exact .ptr r _ cs L h1 h2) h
      · rename_i r i' p ex
        rw [ex] at hR
        generalize hev : a.eval y = u at hR
        cases hR with
        | rptr _ _ _ s rs L h1 h2 h3 => exact fin _ _ _ hev (by rw [Nat.add_assoc]; exact .rptr r i' _ s rs L h1 h2 h3) h
      · rename_i cs p ex
        rw [ex] at hR
        generalize hev : a.eval y = u at hR
        cases hR with
        | cp _ _ b base g h1 h2 h3 => exact fin _ _ _ hev (by rw [Nat.add_assoc]; exact .cp cs _ b base g h1 h2 h3) h
      · exact h.elim
  · exact h.elim

/-! ### Parts of values -/

theorem run_part {t k off : Nat} {agg : Bool} {us : List Value} (hs : szOk P t k = true) (hr : rowOk P t agg = true) (ha : (agg || k == 1) = true) (hk : off + k ≤ us.length) (w : World) :
    (part t us.toArray off).run P w = .ok (if agg then .agg ((us.drop off).take k).toArray else us.getD off undef) w := by
  obtain ⟨i, hi, hsz⟩ := szOk_spec hs
  obtain ⟨d, hu, hd⟩ := rowOk_spec hr
  cases agg with
  | true => simp [part, run_isAgg hu, hd, sizeOf, typeInfo, hi, hsz, List.take_drop]; try omega
  | false =>
    simp only [Bool.false_or, beq_iff_eq] at ha
    subst ha
    have : off < us.length := by omega
    simp [part, run_isAgg hu, hd, this]

theorem part_R {agg : Bool} {k off : Nat} {cs : List V} {us : List Value} (hl : cs.length = us.length) (h1 : ∀ u ∈ us, u.oneCell' = true)
    (hr : ∀ (j : Nat) (c : V), cs[j]? = some c → R C c (us.getD j undef)) (ha : (agg || k == 1) = true) (hk : off + k ≤ cs.length) :
    R C (pickc agg k off cs) (if agg then .agg ((us.drop off).take k).toArray else us.getD off undef) := by
  unfold pickc
  cases agg with
  | true =>
    refine .agg _ _ (by simp [hl]) (fun u hu => h1 u (List.drop_subset _ _ (List.take_subset _ _ hu))) fun j c hj => ?_
    obtain ⟨h2, h3⟩ := getElem?_seg hj
    have := hr _ c h2
    have e : ((us.drop off).take k).getD j undef = us.getD (off + j) undef := by simp [h3, List.getD_eq_getElem?_getD, List.getElem?_drop]
    simp only [e]
    exact this
  | false =>
    simp only [Bool.false_or, beq_iff_eq] at ha
    subst ha
    have := hr off cs[off] (List.getElem?_eq_getElem (by omega))
    have e : cs.getD off V.undef = cs[off] := by simp [show off < cs.length by omega]
    simp only [e]
    exact this

theorem okOp_field {agg : Bool} {off k : Nat} {x : X} {op : Op} (h : okOp P (.field agg off k x) op = true) :
    ∃ t y f fs fd, op = .field t y f ∧ P.underlying t = some (.struct fs) ∧ fs[f]? = some fd ∧ fd.offset = off ∧ szOk P fd.type k = true ∧ rowOk P fd.type agg = true ∧ (agg || k == 1) = true ∧ okX x y = true := by
  cases op with
  | field t y f =>
    simp only [okOp, Bool.and_eq_true] at h
    obtain ⟨h1, h2⟩ := h
    split at h1
    · rename_i fs hu
      split at h1
      · rename_i fd hf
        simp only [Bool.and_eq_true, beq_iff_eq] at h1
        obtain ⟨⟨⟨h3, h4⟩, h5⟩, h6⟩ := h1
        exact ⟨t, y, f, fs, fd, rfl, hu, hf, h3, h4, h5, h6, h2⟩
      · cases h1
    · cases h1
  | _ => simp [okOp] at h

theorem snd_field {agg : Bool} {off k : Nat} {x : X} : Snd P (.field agg off k x) := by
  intro E n C st a o d K next Q hinv hok hd h hn
  obtain ⟨t, y, f, fs, fd, hop, hu, hf, ho, hs, hr, ha, hx⟩ := okOp_field hok
  have hR := hinv.ev hx
  simp only [eff] at h
  split at h
  · rename_i cs e
    rw [e] at hR
    generalize hev : a.eval y = u at hR
    cases hR with
    | agg _ us hl h1 hr' =>
      refine wp_value (w' := C.w) ?_ (hn C _ _ (hinv.put hd (part_R hl h1 hr' ha h.1)) h.2)
      simp [execOp, hop, hev, Instr.field, run_underlying hu, hf, asAgg, ho, run_part (P := P) hs hr ha (hl ▸ h.1)]
  · exact h.elim

theorem okOp_index {agg : Bool} {s len : Nat} {x i : X} {op : Op} (h : okOp P (.index agg s len x i) op = true) :
    ∃ t y j e, op = .index t y j ∧ P.underlying t = some (.array len e) ∧ szOk P e s = true ∧ rowOk P e agg = true ∧ (agg || s == 1) = true ∧ okX x y = true ∧ okX i j = true := by
  cases op with
  | index t y j =>
    simp only [okOp, Bool.and_eq_true] at h
    obtain ⟨⟨h1, h2⟩, h3⟩ := h
    split at h1
    · rename_i l e hu
      simp only [Bool.and_eq_true, beq_iff_eq] at h1
      obtain ⟨⟨⟨rfl, h4⟩, h5⟩, h6⟩ := h1
      exact ⟨t, y, j, e, rfl, hu, h4, h5, h6, h2, h3⟩
    · cases h1
  | _ => simp [okOp] at h

theorem snd_index {agg : Bool} {s len : Nat} {x i : X} : Snd P (.index agg s len x i) := by
  intro E n C st a o d K next Q hinv hok hd h hn
  obtain ⟨t, y, j, e, hop, hu, hs, hr, ha, hx, hi⟩ := okOp_index hok
  have hR := hinv.ev hx
  have hI := hinv.ev hi
  simp only [eff] at h
  split at h
  · rename_i cs k m e1 e2
    rw [e1] at hR; rw [e2] at hI
    have hI := R_int hI
    obtain ⟨h0, h1, h2, h⟩ := h
    generalize hev : a.eval y = u at hR
    cases hR with
    | agg _ us hl h1' hr' =>
      have hk : m.toNat * s + s ≤ cs.length := by
        rw [h2, ← Nat.succ_mul]; exact Nat.mul_le_mul_right _ h1
      refine wp_value (w' := C.w) ?_ (hn C _ _ (hinv.put hd (part_R hl h1' hr' ha hk)) h)
      obtain ⟨ii, hii, hsz⟩ := szOk_spec hs
      have hm : m < (len : Int) := by omega
      simp [execOp, hop, hev, hI, Instr.index, asIntOf, run_underlying hu, h0, hm, sizeOf, typeInfo, hii, hsz, run_part (P := P) hs hr ha (hl ▸ hk)]
  · exact h.elim

theorem okOp_sidx {x i : X} {op : Op} (h : okOp P (.sidx x i) op = true) : ∃ t y j, op = .index t y j ∧ P.underlying t = some .string ∧ okX x y = true ∧ okX i j = true := by
  cases op with
  | index t y j =>
    simp only [okOp, Bool.and_eq_true] at h
    obtain ⟨⟨h1, h2⟩, h3⟩ := h
    split at h1
    · rename_i hu; exact ⟨t, y, j, rfl, hu, h2, h3⟩
    · cases h1
  | _ => simp [okOp] at h

theorem snd_sidx {x i : X} : Snd P (.sidx x i) := by
  intro E n C st a o d K next Q hinv hok hd h hn
  obtain ⟨t, y, j, hop, hu, hx, hi⟩ := okOp_sidx hok
  have hR := hinv.ev hx
  have hI := hinv.ev hi
  simp only [eff] at h
  split at h
  · rename_i b k m e1 e2
    rw [e1] at hR; rw [e2] at hI
    have hI := R_int hI
    have hR := R_str hR
    obtain ⟨h0, h1, h⟩ := h
    refine wp_value (u := .int .u8 (b.data.getD m.toNat 0).toNat) (w' := C.w) ?_ (hn C _ _ (hinv.put hd (.int _ _)) h)
    have h1' : m.toNat < b.data.size := h1
    simp [execOp, hop, hR, hI, Instr.index, asIntOf, run_underlying hu, h0, h1]
    rfl
  · exact h.elim

/-! ### Lengths -/

theorem okOp_len {x : X} {op : Op} (h : okOp P (.len x) op = true) : ∃ c y t e, op = .call c ∧ c.callee = .builtin .len ∧ c.args = #[y] ∧ c.argTypes = #[t] ∧ P.underlying t = some (.slice e) ∧ okX x y = true := by
  cases op with
  | call c =>
    simp only [okOp] at h
    split at h
    · rename_i y t hc ha ht
      simp only [Bool.and_eq_true] at h
      obtain ⟨h1, h2⟩ := h
      split at h1
      · rename_i e hu
        exact ⟨c, y, t, e, rfl, hc, by rw [← ha], by rw [← ht], hu, h2⟩
      · cases h1
    · cases h
  | _ => simp [okOp] at h

theorem okOp_slen {x : X} {op : Op} (h : okOp P (.slen x) op = true) : ∃ c y t, op = .call c ∧ c.callee = .builtin .len ∧ c.args = #[y] ∧ c.argTypes = #[t] ∧ P.underlying t = some .string ∧ okX x y = true := by
  cases op with
  | call c =>
    simp only [okOp] at h
    split at h
    · rename_i y t hc ha ht
      simp only [Bool.and_eq_true] at h
      obtain ⟨h1, h2⟩ := h
      split at h1
      · rename_i hu
        exact ⟨c, y, t, rfl, hc, by rw [← ha], by rw [← ht], hu, h2⟩
      · cases h1
    · cases h
  | _ => simp [okOp] at h

theorem snd_len {x : X} : Snd P (.len x) := by
  intro E n C st a o d K next Q hinv hok hd h hn
  obtain ⟨c, y, t, e, hop, hc, ha, ht, hu, hx⟩ := okOp_len hok
  have hR := hinv.ev hx
  have fin : ∀ (ao : Option Addr) (len cap : Nat), a.eval y = .slice ao len cap → K (st.put d (.int .i64 len)) → o.wp P a C.w next Q := by
    intro ao len cap hp hK
    refine wp_value (u := .int .i64 len) (w' := C.w) ?_ (hn C _ _ (hinv.put hd (.int _ _)) hK)
    simp [execOp, hop, resolve, hc, ha, ht, hp, invoke, builtin, Builtin.len_, run_underlying hu, goInt]
  simp only [eff] at h
  split at h
  · rename_i f s rows ex
    rw [ex] at hR
    generalize hev : a.eval y = u at hR
    cases hR with
    | slNil => exact fin _ _ _ hev h
    | sl => exact fin _ _ _ hev h
  · rename_i r i m ex
    rw [ex] at hR
    generalize hev : a.eval y = u at hR
    cases hR with
    | sref => exact fin _ _ _ hev h
    | srefNil => exact fin _ _ _ hev h
    | srefZ => exact fin _ _ _ hev h
  · rename_i s ex
    rw [ex] at hR
    generalize hev : a.eval y = u at hR
    cases hR with
    | nils => exact fin _ _ _ hev h
    | nilsSome => exact fin _ _ _ hev h
  · exact h.elim

theorem snd_slen {x : X} : Snd P (.slen x) := by
  intro E n C st a o d K next Q hinv hok hd h hn
  obtain ⟨c, y, t, hop, hc, ha, ht, hu, hx⟩ := okOp_slen hok
  have hR := hinv.ev hx
  simp only [eff] at h
  split at h
  · rename_i b ex
    rw [ex] at hR
    have hR := R_str hR
    refine wp_value (u := .int .i64 b.size) (w' := C.w) ?_ (hn C _ _ (hinv.put hd (.int _ _)) h)
    simp [execOp, hop, resolve, hc, ha, ht, hR, invoke, builtin, Builtin.len_, run_underlying hu, goInt]
  · exact h.elim

/-! ### Slices of slices -/

theorem okO_ev (hinv : Inv E n C st a) {x : Option X} {y : Option Operand} (h : okO' x y = true) {z : V} {k : IntKind} {m : Int} (hz : (match x with | none => z | some l => l.ev st) = .int k m) :
    (x = none ∧ y = none ∧ z = .int k m) ∨ ∃ p, y = some p ∧ x.isSome = true ∧ a.eval p = .int k m := by
  cases x with
  | none => cases y with
    | none => exact .inl ⟨rfl, rfl, hz⟩
    | some y => simp [okO'] at h
  | some x => cases y with
    | none => simp [okO'] at h
    | some y =>
      have := hinv.ev (x := x) (y := y) (by simpa [okO'] using h)
      simp only at hz
      rw [hz] at this
      exact .inr ⟨y, rfl, rfl, R_int this⟩

/-- The bounds of a slice expression. -/
theorem run_sliceBounds {isSlice : Bool} {len cap : Nat} (hle : len ≤ cap) {lo hi : Option Value} {l h : Int} (hl : (lo = none ∧ l = 0) ∨ ∃ k, lo = some (.int k l)) (hh : (hi = none ∧ h = len) ∨ ∃ k, hi = some (.int k h))
    (h0 : 0 ≤ l) (h1 : l ≤ h) (h2 : h ≤ len) (w : World) :
    (Instr.sliceBounds isSlice len cap lo hi none).run P w = .ok (l.toNat, h.toNat, cap) w := by
  have hc : h ≤ (cap : Int) := by omega
  have h3 : (0 : Int) ≤ h := by omega
  have e : h.toNat = h := by omega
  have hlh : l ≤ (h.toNat : Int) := by omega
  rcases hl with ⟨rfl, rfl⟩ | ⟨k, rfl⟩ <;> rcases hh with ⟨rfl, rfl⟩ | ⟨k', rfl⟩ <;>
    simp [Instr.sliceBounds, Instr.sliceBound, asIntOf, h0, h1, h3, hc] <;> omega

theorem okOp_slice {s : Nat} {x : X} {lo hi : Option X} {op : Op} (h : okOp P (.slice s x lo hi) op = true) :
    ∃ t y l m e, op = .slice t y l m none ∧ P.underlying t = some (.slice e) ∧ szOk P e s = true ∧ okX x y = true ∧ okO' lo l = true ∧ okO' hi m = true := by
  cases op with
  | slice t y l m mx =>
    simp only [okOp, Bool.and_eq_true, sliceElem] at h
    obtain ⟨⟨⟨⟨h1, h2⟩, h3⟩, h4⟩, h5⟩ := h
    split at h1
    · rename_i e hu
      cases mx with
      | none => exact ⟨t, y, l, m, e, rfl, hu, h1, h2, h3, h4⟩
      | some _ => simp at h5
    · cases h1
  | _ => simp [okOp] at h

theorem okOp_sslice {x : X} {lo hi : Option X} {op : Op} (h : okOp P (.sslice x lo hi) op = true) :
    ∃ t y l m, op = .slice t y l m none ∧ P.underlying t = some .string ∧ okX x y = true ∧ okO' lo l = true ∧ okO' hi m = true := by
  cases op with
  | slice t y l m mx =>
    simp only [okOp, Bool.and_eq_true] at h
    obtain ⟨⟨⟨⟨h1, h2⟩, h3⟩, h4⟩, h5⟩ := h
    split at h1
    · rename_i hu
      cases mx with
      | none => exact ⟨t, y, l, m, rfl, hu, h2, h3, h4⟩
      | some _ => simp at h5
    · cases h1
  | _ => simp [okOp] at h

theorem bounds_of (hinv : Inv E n C st a) {lo : Option X} {y : Option Operand} (h : okO' lo y = true) {k : IntKind} {m dflt : Int} (hz : (match lo with | none => V.int .i64 dflt | some l => l.ev st) = .int k m) :
    (y.map a.eval = none ∧ m = dflt) ∨ ∃ k, y.map a.eval = some (.int k m) := by
  rcases okO_ev hinv h hz with ⟨_, rfl, h3⟩ | ⟨p, rfl, _, h3⟩
  · cases h3; exact .inl ⟨rfl, rfl⟩
  · exact .inr ⟨k, by simp [h3]⟩

theorem at2_cut {rows : List (List V)} {l h i j : Nat} {c : V} (hc : at2 ((rows.take h).drop l) i j = some c) : at2 rows (l + i) j = some c := by
  unfold at2 at hc ⊢
  rw [List.getElem?_drop, List.getElem?_take] at hc
  split at hc
  · exact hc
  · cases hc

theorem snd_slice {s : Nat} {x : X} {lo hi : Option X} : Snd P (.slice s x lo hi) := by
  intro E n C st a o d K next Q hinv hok hd h hn
  obtain ⟨t, y, l', m', e, hop, hu, hs, hx, hlo, hhi⟩ := okOp_slice hok
  obtain ⟨ii, hii, hsz⟩ := szOk_spec hs
  have hR := hinv.ev hx
  have fin : ∀ (ao : Option Addr) (len cap : Nat) (l h : Int) (v : V), a.eval y = .slice ao len cap → len ≤ cap →
      ((l'.map a.eval = none ∧ l = 0) ∨ ∃ k, l'.map a.eval = some (.int k l)) → ((m'.map a.eval = none ∧ h = len) ∨ ∃ k, m'.map a.eval = some (.int k h)) →
      0 ≤ l → l ≤ h → h ≤ len → R C v (.slice (if cap = l.toNat then ao else ao.map (·.add (l.toNat * s))) (h.toNat - l.toNat) (cap - l.toNat)) → K (st.put d v) → o.wp P a C.w next Q := by
    intro ao len cap l h v hp hle hl hh h0 h1 h2 hv hK
    refine wp_value (w' := C.w) ?_ (hn C _ _ (hinv.put hd hv) hK)
    simp [execOp, hop, hp, Instr.sliceAt, run_underlying hu, Instr.slice, run_sliceBounds (P := P) (isSlice := true) hle hl hh h0 h1 h2, sizeOf, typeInfo, hii, hsz]
  simp only [eff] at h
  split at h
  · rename_i f s' rows k l ex el
    rw [ex] at hR
    split at h
    · rename_i k' m em
      obtain ⟨rfl, h0, h1, h2, h⟩ := h
      have bl := bounds_of hinv hlo el
      have bh := bounds_of hinv hhi em
      generalize hev : a.eval y = u at hR
      cases hR with
      | slNil =>
        have : l = 0 := by simp at h2; omega
        have : m = 0 := by simp at h2; omega
        subst l m
        refine fin none 0 0 0 0 _ hev (Nat.le_refl _) bl bh h0 h1 h2 ?_ h
        simpa using R.slNil f s'
      | sl _ _ _ b base cap g hc hm hu' hfr hcell hcl hr =>
        refine fin _ _ cap l m _ hev hc bl bh h0 h1 h2 ?_ h
        have hlen : ((rows.take m.toNat).drop l.toNat).length = m.toNat - l.toNat := by simp; omega
        have hmem : ∀ r ∈ (rows.take m.toNat).drop l.toNat, r ∈ rows := fun r hr => List.take_subset _ _ (List.drop_subset _ _ hr)
        by_cases hcap : cap = l.toNat
        · have he : (rows.take m.toNat).drop l.toNat = [] := List.eq_nil_of_length_eq_zero (by omega)
          rw [he]
          have e2 : m.toNat - l.toNat = ([] : List (List V)).length := by simp; omega
          rw [if_pos hcap, e2]
          refine .sl f s' [] b base (cap - l.toNat) g (by simp) (by omega) (by simp) (by simp) (fun i j c hij => ?_) (fun i j c hij => ?_) (fun i j c hij => ?_) <;> simp [at2] at hij
        · rw [if_neg hcap, ← hlen]
          simp only [Option.map_some, addr_add]
          refine .sl f s' _ b (base + l.toNat * s') (cap - l.toNat) (fun i j => g (l.toNat + i) j) (by omega) (by omega) (fun r hr => hu' r (hmem r hr)) (fun h3 h4 => hfr h3 (fun e => h4 (by simp [e]))) (fun i j c hij => ?_) (fun i j c hij => hcl _ _ _ (at2_cut hij)) (fun i j c hij => hr _ _ _ (at2_cut hij))
          have := hcell _ _ _ (at2_cut hij)
          have e : base + l.toNat * s' + i * s' + j = base + (l.toNat + i) * s' + j := by rw [Nat.add_mul]; omega
          rw [e]
          exact this
    · exact h.elim
  · rename_i r i m0 k l ex el
    rw [ex] at hR
    split at h
    · rename_i s' rs k' m hh em
      obtain ⟨rfl, h0, h1, h2, h⟩ := h
      have bl := bounds_of hinv hlo el
      have bh := bounds_of hinv hhi em
      rw [← hinv.heap] at hh
      generalize hev : a.eval y = u at hR
      cases hR with
      | sref _ _ _ s2 rs2 L g1 g2 g3 =>
        rw [hh] at g1; cases g1
        have ho := hinv.objs r
        unfold ObjOk at ho
        rw [hh] at ho
        rcases ho with ⟨_, ho⟩ | ⟨L', hl', _, q1, q2, _⟩
        · rw [g2] at ho; cases ho
        rw [g2] at hl'; cases hl'
        refine fin _ _ (L.cap - i) l m _ hev (by omega) bl bh h0 h1 h2 ?_ h
        by_cases hcap : L.cap - i = l.toNat
        · rw [if_pos hcap]
          have e1 : m.toNat - l.toNat = 0 := by omega
          have e2 : L.cap - i - l.toNat = 0 := by omega
          rw [e1, e2]
          exact .srefZ r _ s' rs _ _ hh (by omega)
        · rw [if_neg hcap]
          simp only [Option.map_some, addr_add]
          rw [← Nat.add_mul, Nat.sub_sub]
          exact .sref r _ _ s' rs L hh g2 (by omega)
      | srefNil _ _ g1 g2 =>
        have : l = 0 := by omega
        have : m = 0 := by omega
        subst l m
        refine fin none 0 0 0 0 _ hev (Nat.le_refl _) bl bh h0 h1 h2 ?_ h
        simpa using R.srefNil r _ g1 g2
      | srefZ _ _ s2 rs2 ab ao g1 g2 =>
        have : l = 0 := by omega
        have : m = 0 := by omega
        subst l m
        refine fin (some ⟨ab, ao, none⟩) 0 0 0 0 _ hev (Nat.le_refl _) bl bh h0 h1 h2 ?_ h
        simpa using R.srefZ r i _ _ ab ao g1 g2
    · exact h.elim
  · exact h.elim

theorem snd_sslice {x : X} {lo hi : Option X} : Snd P (.sslice x lo hi) := by
  intro E n C st a o d K next Q hinv hok hd h hn
  obtain ⟨t, y, l', m', hop, hu, hx, hlo, hhi⟩ := okOp_sslice hok
  have hR := hinv.ev hx
  simp only [eff] at h
  split at h
  · rename_i b k l ex el
    rw [ex] at hR
    have hR := R_str hR
    split at h
    · rename_i k' m em
      obtain ⟨h0, h1, h2, h⟩ := h
      have bl := bounds_of hinv hlo el
      have bh := bounds_of hinv hhi em
      refine wp_value (u := .string (b.extract l.toNat m.toNat)) (w' := C.w) ?_ (hn C _ _ (hinv.put hd (.str _)) h)
      simp [execOp, hop, hR, Instr.sliceAt, run_underlying hu, Instr.slice, run_sliceBounds (P := P) (isSlice := false) (Nat.le_refl b.size) bl bh h0 h1 h2]
    · exact h.elim
  · exact h.elim

end Go.Ab
