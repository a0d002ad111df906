/-
  Calls: what is known less of; the memory behind a call.
-/
import Derived.Test.YtleilicpggnemaaMachS13
namespace Go.Ab
open Go

variable {E : Ent} {n : Sz} {C : Ctx} {st : St} {a : Act} {P : Program}

/-- Less is known of an object. -/
def Wk (o o' : AO) : Prop := o' = o ∨ ∃ cs cs', o = .box cs ∧ o' = .box cs' ∧ cs'.length = cs.length ∧ ∀ (j : Nat) (c : V), cs'[j]? = some c → c = .undef ∨ cs[j]? = some c

theorem Wk.refl (o : AO) : Wk o o := .inl rfl
theorem Wk.trans {o o' o'' : AO} (h : Wk o o') (h' : Wk o' o'') : Wk o o'' := by
  rcases h with rfl | ⟨cs, cs', rfl, rfl, l1, c1⟩
  · exact h'
  · rcases h' with rfl | ⟨cs2, cs3, e2, rfl, l2, c2⟩
    · exact .inr ⟨cs, cs', rfl, rfl, l1, c1⟩
    · cases e2
      exact .inr ⟨cs, cs3, rfl, rfl, l2.trans l1, fun j c hj => (c2 j c hj).elim .inl fun h => c1 j c h⟩
theorem Wk.dead {o o' : AO} (h : Wk o o') : o'.isDead = o.isDead := by
  rcases h with rfl | ⟨cs, cs', rfl, rfl, _⟩ <;> rfl

/-- Less is known of a state. -/
theorem Inv.weak (h : Inv E n C st a) {st' : St} (he : ∀ t, st'.env t = st.env t) (hw : ∀ r, Wk (st.heap r) (st'.heap r)) :
    Inv E n { C with heap := st'.heap } st' a ∧ Le C { C with heap := st'.heap } := by
  have hw' : ∀ r, Wk (C.heap r) (st'.heap r) := fun r => by rw [h.heap]; exact hw r
  have hc : Le C { C with heap := st'.heap } := by
    refine ⟨fun b off hf => ⟨hf, rfl⟩, fun _ h => h, fun r cs _ hr => ⟨?_, rfl⟩, fun r s rs _ hr => ⟨?_, rfl⟩⟩
    · rcases hw' r with h1 | ⟨c1, c2, _, h2, _⟩
      · exact ⟨cs, h1.trans hr⟩
      · exact ⟨c2, h2⟩
    · rcases hw' r with h1 | ⟨c1, c2, h1, _, _⟩
      · exact ⟨rs, h1.trans hr, rfl⟩
      · rw [hr] at h1; cases h1
  refine ⟨{ heap := rfl, env := fun t => by rw [he]; exact (h.env t).mono hc
            objs := fun r => ?_
            inj := fun r r' L L' hl hl' hr hr' hb => h.inj r r' L L' hl hl' (by rw [← (hw' r).dead]; exact hr) (by rw [← (hw' r').dead]; exact hr') hb
            fin := h.fin, gnew := h.gnew, gsub := h.gsub, par := h.par, fnew := h.fnew, frame := h.frame, defers := h.defers, size := h.size }, hc⟩
  rcases hw' r with h1 | ⟨c1, c2, h1, h2, h3, h4⟩
  · exact (h.objs r).mono hc h1 rfl fun L _ _ => ⟨rfl, fun _ h => h, fun h => h⟩
  · have ho := h.objs r
    unfold ObjOk at ho ⊢
    rw [h1] at ho
    simp only [h2]
    obtain ⟨L, g1, ⟨cur, e, g, g2, g3⟩, g4, g5⟩ := ho
    refine ⟨L, g1, ⟨cur, e, g, g2, fun j c hj => ?_⟩, fun j hj => g4 j (h3 ▸ hj), g5⟩
    have hlt : j < c1.length := by rw [← h3]; exact (List.getElem?_eq_some_iff.1 hj).1
    obtain ⟨a1, a2, a3⟩ := g3 j c1[j] (by simp [hlt])
    refine ⟨a1, a2, ?_⟩
    rcases h4 j c hj with rfl | h5
    · exact .undef _
    · simp only [List.getElem?_eq_getElem hlt, Option.some.injEq] at h5
      subst h5
      exact a3.mono hc

theorem sameBut_cell {W : Nat → Nat → Prop} {w w' : World} {b off : Nat} (h : sameBut (W b) (w.heap[b]?) (w'.heap[b]?)) (hw : ¬ W b off) : w'.cell? ⟨b, off, none⟩ = w.cell? ⟨b, off, none⟩ := by
  cases ho : w.heap[b]? with
  | none =>
    rw [ho] at h
    exact World.cell?_of_block (a := ⟨b, off, none⟩) (by simp only [ho]; cases hq : w'.heap[b]? <;> rw [hq] at h <;> simp [sameBut] at h ⊢)
  | some o =>
    rw [ho] at h
    cases o with
    | cells c e fr =>
      cases hq : w'.heap[b]? with
      | none => rw [hq] at h; simp [sameBut] at h
      | some o' =>
        rw [hq] at h
        cases o' with
        | cells c' e' fr' =>
          simp only [sameBut] at h
          obtain ⟨_, _, _, h4⟩ := h
          rw [cell_of_row _ _ _ _ _ _ hq, cell_of_row _ _ _ _ _ _ ho]
          exact h4 off hw
        | _ => simp [sameBut] at h
    | _ =>
      exact World.cell?_of_block (a := ⟨b, off, none⟩) (by simp only [ho]; cases hq : w'.heap[b]? <;> rw [hq] at h <;> simp [sameBut] at h ⊢; exact h)

theorem Frame.trans {w0 w w' : World} {W V : Nat → Nat → Prop} (h : Frame w0 w W) (h' : Frame w w' V) (hv : ∀ b off, V b off → b < w0.heap.size → W b off) : Frame w0 w' W := by
  refine ⟨h'.os.trans h.os, h'.output.trans h.output, h'.tape.trans h.tape, Nat.le_trans h.size h'.size, fun b hb => ?_⟩
  have h1 := h.same b hb
  have h2 := h'.same b (Nat.lt_of_lt_of_le hb h.size)
  cases ho : w0.heap[b]? with
  | none =>
    rw [ho] at h1
    cases hq : w.heap[b]? with
    | none =>
      rw [hq] at h2
      cases hz : w'.heap[b]? with
      | none => rfl
      | some o => rw [hz] at h2; simp [sameBut] at h2
    | some o => rw [hq] at h1; simp [sameBut] at h1
  | some o =>
    rw [ho] at h1
    cases o with
    | cells c e fr =>
      cases hq : w.heap[b]? with
      | none => rw [hq] at h1; simp [sameBut] at h1
      | some o' =>
        rw [hq] at h1 h2
        cases o' with
        | cells c' e' fr' =>
          cases hz : w'.heap[b]? with
          | none => rw [hz] at h2; simp [sameBut] at h2
          | some o2 =>
            rw [hz] at h2
            cases o2 with
            | cells c2 e2 fr2 =>
              simp only [sameBut] at h1 h2 ⊢
              obtain ⟨a1, a2, a3, a4⟩ := h1
              obtain ⟨b1, b2, b3, b4⟩ := h2
              exact ⟨b1.trans a1, b2.trans a2, b3.trans a3, fun off hw => (b4 off fun hv' => hw (hv b off hv' hb)).trans (a4 off hw)⟩
            | _ => simp [sameBut] at h2
        | _ => simp [sameBut] at h1
    | _ =>
      have e1 := h1
      simp only [sameBut] at e1
      rw [e1] at h2
      cases hz : w'.heap[b]? <;> rw [hz] at h2 <;> simp [sameBut] at h2 ⊢
      exact h2

/-- A block of cells behind a call. -/
theorem sameBut_row {W : Nat → Prop} {o' : Option Obj} {cur : Array Value} {e : TypeId} (h : sameBut W (some (.cells cur e (0, 0))) o') :
    ∃ cur', o' = some (.cells cur' e (0, 0)) ∧ cur'.size = cur.size ∧ ∀ off, ¬ W off → cur'[off]? = cur[off]? := by
  cases o' with
  | none => simp [sameBut] at h
  | some o =>
    cases o with
    | cells c' e' fr' =>
      simp only [sameBut] at h
      obtain ⟨rfl, rfl, h3, h4⟩ := h
      exact ⟨c', rfl, h3, h4⟩
    | _ => simp [sameBut] at h

/-- The memory changes, where nothing is known. -/
theorem Inv.world (h : Inv E n C st a) {w' : World} {W F' : Nat → Nat → Prop} (hx : Frame C.w w' W)
    (hWF : ∀ b off, W b off → ¬ C.F b off)
    (hWE : ∀ b off, W b off → E.w0.heap.size ≤ b ∨ E.Wr b off)
    (hF : ∀ b off, C.F b off → F' b off)
    (hF' : ∀ b off, F' b off → C.F b off ∨ (b < w'.heap.size ∧ C.G b ∧ ∀ r L, C.loc r = some L → (C.heap r).isDead = false → L.blk ≠ b))
    (hbox : ∀ r cs L j c, C.heap r = .box cs → C.loc r = some L → cs[j]? = some c → W L.blk (L.base + j) → c = .undef ∧ ∃ u, w'.cell? ⟨L.blk, L.base + j, none⟩ = some u ∧ u.oneCell' = true)
    (hrows : ∀ r s rs L off, C.heap r = .rows s rs → C.loc r = some L → ¬ W L.blk off) :
    Inv E n { C with w := w', F := F' } st a ∧ Le C { C with w := w', F := F' } := by
  have hc : Le C { C with w := w', F := F' } :=
    ⟨fun b off hf => ⟨hF b off hf, sameBut_cell (hx.same b (h.fin b off hf)) fun hw => hWF b off hw hf⟩, fun _ h => h, fun _ cs _ h => ⟨⟨cs, h⟩, rfl⟩, fun _ _ rs _ h => ⟨⟨rs, h, rfl⟩, rfl⟩⟩
  refine ⟨{ heap := h.heap, env := fun t => (h.env t).mono hc
            objs := fun r => ?_
            inj := h.inj
            fin := fun b off hf => by
              rcases hF' b off hf with h1 | h1
              · exact Nat.lt_of_lt_of_le (h.fin b off h1) hx.size
              · exact h1.1
            gnew := h.gnew, gsub := h.gsub, par := h.par
            fnew := fun b off hf => by
              rcases hF' b off hf with h1 | h1
              · exact h.fnew b off h1
              · exact .inr h1.2.1
            frame := h.frame.trans hx fun b off hw hb => (hWE b off hw).resolve_left (Nat.not_le.2 hb)
            defers := h.defers, size := h.size }, hc⟩
  have ho := h.objs r
  have hlt : ∀ L, C.loc r = some L → (C.heap r).isDead = false → L.blk < C.w.heap.size := fun L hl ha => (h.objs r).lt hl ha
  have hFr : ∀ L, C.loc r = some L → (C.heap r).isDead = false → ∀ off, F' L.blk off → C.F L.blk off := fun L hl ha off hf => (hF' _ _ hf).resolve_right fun hq => hq.2.2 r L hl ha rfl
  unfold ObjOk at ho ⊢
  cases hh : C.heap r with
  | dead => simp
  | box cs =>
    rw [hh] at ho
    simp only
    obtain ⟨L, g1, ⟨cur, e, g, g2, g3⟩, g4, g5⟩ := ho
    have al : (C.heap r).isDead = false := by rw [hh]; rfl
    have hs := hx.same _ (hlt L g1 al)
    rw [g2] at hs
    obtain ⟨cur', q1, q2, q3⟩ := sameBut_row hs
    refine ⟨L, g1, ⟨cur', e, fun j => (cur'[L.base + j]?).getD undef, q1, fun j c hj => ?_⟩, fun j hj => ⟨fun hf => (g4 j hj).1 (hFr L g1 al _ hf), (g4 j hj).2⟩,
      g5.imp (fun h1 off hf => h1 off (hFr L g1 al _ hf)) (fun h1 => h1)⟩
    obtain ⟨a1, a2, a3⟩ := g3 j c hj
    by_cases hw : W L.blk (L.base + j)
    · obtain ⟨rfl, u, u1, u2⟩ := hbox r cs L j c hh g1 hj hw
      rw [cell_of_row _ _ _ _ _ _ q1] at u1
      simp only [u1, Option.getD_some]
      exact ⟨trivial, u2, .undef _⟩
    · simp only [q3 _ hw, a1, Option.getD_some]
      exact ⟨trivial, a2, a3.mono hc⟩
  | rows s rs =>
    rw [hh] at ho
    simp only
    rcases ho with ho | ⟨L, g1, g0, g2, g3, g4, ⟨cur, e, g, g5, g6, g7⟩, g8, g9⟩
    · exact .inl ho
    · have al : (C.heap r).isDead = false := by rw [hh]; rfl
      have hs := hx.same _ (hlt L g1 al)
      rw [g5] at hs
      obtain ⟨cur', q1, q2, q3⟩ := sameBut_row hs
      refine .inr ⟨L, g1, g0, g2, g3, g4, ⟨cur', e, g, q1, q2.trans g6, fun i j c hij => ?_⟩, fun off => ⟨fun hf => (g8 off).1 (hFr L g1 al _ hf), (g8 off).2⟩, g9⟩
      obtain ⟨a1, a2, a3, a4⟩ := g7 i j c hij
      exact ⟨(q3 _ (hrows r s rs L _ hh g1)).trans a1, a2, a3, a4.mono hc⟩

end Go.Ab
