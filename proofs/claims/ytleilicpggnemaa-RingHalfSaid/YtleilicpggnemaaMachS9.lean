/-
  Each operation of the abstract machine is what the model's operation does: own slices that become objects; appends.
-/
import Derived.Test.YtleilicpggnemaaMachS8
namespace Go.Ab
open Go

variable {E : Ent} {n : Sz} {C : Ctx} {st : St} {a : Act} {P : Program}

/-- A block that nobody holds. -/
structure Free (E : Ent) (C : Ctx) (b : Nat) : Prop where
  F : ∀ off, ¬ C.F b off
  G : C.G b
  W : ∀ off, E.w0.heap.size ≤ b ∨ E.Wr b off
  obj : ∀ r L, C.loc r = some L → (C.heap r).isDead = false → L.blk ≠ b

/-- A row of elements at the head of a block. -/
structure OwnAt (C : Ctx) (b cap s : Nat) (rows : List (List V)) : Prop where
  le : rows.length ≤ cap
  max : cap ≤ maxLen
  width : ∀ r ∈ rows, r.length = s
  cells : ∃ (cur : Array Value) (e : TypeId) (g : Nat → Nat → Value), C.w.heap[b]? = some (.cells cur e (0, 0)) ∧ cur.size = cap * s ∧
    ∀ i j c, at2 rows i j = some c → cur[i * s + j]? = some (g i j) ∧ (g i j).oneCell' = true ∧ c.closed = true ∧ R C c (g i j)

theorem OwnAt.mono {C' : Ctx} {b cap s : Nat} {rows : List (List V)} (h : OwnAt C b cap s rows) (hc : Le C C') (hb : C'.w.heap[b]? = C.w.heap[b]?) : OwnAt C' b cap s rows := by
  obtain ⟨cur, e, g, h1, h2, h3⟩ := h.cells
  exact ⟨h.le, h.max, h.width, cur, e, g, hb.trans h1, h2, fun i j c hij => ⟨(h3 i j c hij).1, (h3 i j c hij).2.1, (h3 i j c hij).2.2.1, (h3 i j c hij).2.2.2.mono hc⟩⟩

theorem OwnR_iff {s : Nat} {rows : List (List V)} {u : Value} : OwnR C s rows u ↔ (rows = [] ∧ (u = .slice none 0 0 ∨ ∃ b off, u = .slice (some ⟨b, off, none⟩) 0 0)) ∨ ∃ b cap, u = .slice (some ⟨b, 0, none⟩) rows.length cap ∧ 0 < cap ∧ OwnAt C b cap s rows := by
  unfold OwnR
  constructor
  · rintro (⟨h, h'⟩ | ⟨h, h'⟩ | ⟨b, cap, cur, e, g, h1, h0, h2, h3, h4, h5, h6, h7⟩)
    · exact .inl ⟨h, .inl h'⟩
    · exact .inl ⟨h, .inr h'⟩
    · exact .inr ⟨b, cap, h1, h0, h2, h3, h6, cur, e, g, h4, h5, h7⟩
  · rintro (⟨h, h' | h'⟩ | ⟨b, cap, h1, h0, ⟨h2, h3, h6, cur, e, g, h4, h5, h7⟩⟩)
    · exact .inl ⟨h, h'⟩
    · exact .inr (.inl ⟨h, h'⟩)
    · exact .inr (.inr ⟨b, cap, cur, e, g, h1, h0, h2, h3, h4, h5, h6, h7⟩)

theorem Free.mono {C' : Ctx} {b : Nat} (h : Free E C b) (hF : ∀ off, C'.F b off → C.F b off) (hG : C.G b → C'.G b) (ho : ∀ r L, C'.loc r = some L → (C'.heap r).isDead = false → L.blk = b → C.loc r = some L ∧ (C.heap r).isDead = false) : Free E C' b :=
  ⟨fun off hf => h.F off (hF off hf), hG h.G, h.W, fun r L h1 h2 h3 => by obtain ⟨h4, h5⟩ := ho r L h1 h2 h3; exact h.obj r L h4 h5 h3⟩

/-- Some of what nobody holds is frozen. -/
theorem Inv.freeze (h : Inv E n C st a) {b : Nat} (hb : b < C.w.heap.size) (hf : Free E C b) : Inv E n { C with F := fun b' off => C.F b' off ∨ b' = b } st a ∧ Le C { C with F := fun b' off => C.F b' off ∨ b' = b } := by
  have hc : Le C { C with F := fun b' off => C.F b' off ∨ b' = b } := ⟨fun b off hf => ⟨.inl hf, rfl⟩, fun _ h => h, fun _ cs _ h => ⟨⟨cs, h⟩, rfl⟩, fun _ _ rs _ h => ⟨⟨rs, h, rfl⟩, rfl⟩⟩
  exact ⟨{ heap := h.heap, env := fun t => (h.env t).mono hc
           objs := fun r => (h.objs r).mono hc rfl rfl fun L hl ha => ⟨rfl, fun off hx => hx.resolve_right (hf.obj r L hl ha), fun h => h⟩
           inj := h.inj
           fin := fun b' off hx => by
             rcases hx with hx | rfl
             · exact h.fin b' off hx
             · exact hb
           gnew := h.gnew, gsub := h.gsub, par := h.par
           fnew := fun b' off hx => by
             rcases hx with hx | rfl
             · exact h.fnew b' off hx
             · exact .inr hf.G
           frame := h.frame, defers := h.defers, size := h.size }, hc⟩

/-- What nobody holds becomes an object. -/
theorem Inv.takeObj (h : Inv E n C st a) {b cap s : Nat} {rows : List (List V)} (hf : Free E C b) (ho : OwnAt C b cap s rows) {r : Nat} (hr : (st.heap r).isDead = true) :
    ∃ C', Inv E n C' (st.set r (.rows s rows)) a ∧ C'.w = C.w ∧ R C' (.sref r 0 rows.length) (.slice (some ⟨b, 0, none⟩) rows.length cap) ∧ Le C C' ∧
      C'.heap = upd C.heap r (.rows s rows) ∧ C'.loc = upd C.loc r (some ⟨b, 0, cap⟩) ∧ C'.F = C.F ∧ C'.G = C.G := by
  have l2 := h.le_obj hr (.rows s rows) (some ⟨b, 0, cap⟩)
  obtain ⟨cur, e, g, hcur, hsz, hcell⟩ := ho.cells
  refine ⟨{ C with heap := upd C.heap r (.rows s rows), loc := upd C.loc r (some ⟨b, 0, cap⟩) }, h.obj hr ?_ ?_, rfl, ?_, l2, rfl, rfl, rfl, rfl⟩
  · unfold ObjOk
    simp only [upd, if_true]
    exact .inr ⟨_, rfl, rfl, ho.le, ho.max, ho.width, ⟨cur, e, g, hcur, hsz, fun i j c hij => ⟨(hcell i j c hij).1, (hcell i j c hij).2.1, (hcell i j c hij).2.2.1, (hcell i j c hij).2.2.2.mono l2⟩⟩, fun off => ⟨hf.F off, hf.W off⟩, hf.G⟩
  · rintro L' hL' r' L'' _ hl ha
    cases hL'
    exact hf.obj r' L'' hl ha
  · have : R { C with heap := upd C.heap r (.rows s rows), loc := upd C.loc r (some ⟨b, 0, cap⟩) } (.sref r 0 rows.length) (.slice (some ⟨b, 0 * s, none⟩) rows.length (cap - 0)) :=
      .sref r 0 rows.length s rows ⟨b, 0, cap⟩ (by simp [upd]) (by simp [upd]) (by omega)
    simpa using this

/-- What nobody holds becomes a value. -/
theorem Inv.takeVal (h : Inv E n C st a) {b cap s : Nat} {rows : List (List V)} (hf : Free E C b) (ho : OwnAt C b cap s rows) :
    ∃ C', Inv E n C' st a ∧ C'.w = C.w ∧ R C' (.sl true s rows) (.slice (some ⟨b, 0, none⟩) rows.length cap) ∧ Le C C' ∧ C'.heap = C.heap ∧ C'.loc = C.loc ∧ (∀ b' off, C'.F b' off ↔ C.F b' off ∨ b' = b) ∧ C'.G = C.G := by
  obtain ⟨cur, e, g, hcur, hsz, hcell⟩ := ho.cells
  obtain ⟨h1, h2⟩ := h.freeze (block_lt hcur) hf
  refine ⟨_, h1, rfl, ?_, h2, rfl, rfl, fun _ _ => Iff.rfl, rfl⟩
  refine .sl true s rows b 0 cap g ho.le ho.max ho.width (fun _ _ => hf.G) (fun i j c hij => ?_) (fun i j c hij => (hcell i j c hij).2.2.1) (fun i j c hij => (hcell i j c hij).2.2.2.mono h2)
  obtain ⟨a1, a2, _, _⟩ := hcell i j c hij
  refine ⟨?_, .inr rfl, a2⟩
  simp only [Nat.zero_add]
  rw [cell_of_row _ _ _ _ _ _ hcur]
  exact a1

theorem Inv.take (h : Inv E n C st a) {b cap s : Nat} {rows : List (List V)} (hf : Free E C b) (ho : OwnAt C b cap s rows) {mode d : Option Nat} {K : St → Prop} (hk : newSl s rows mode d st K) :
    ∃ C' st' v, Inv E n C' st' a ∧ C'.w = C.w ∧ R C' v (.slice (some ⟨b, 0, none⟩) rows.length cap) ∧ K (st'.put d v) := by
  cases mode with
  | none =>
    obtain ⟨C', h1, h2, h3, _⟩ := h.takeVal hf ho
    exact ⟨C', st, _, h1, h2, h3, hk⟩
  | some r =>
    obtain ⟨h0, hk⟩ := hk
    obtain ⟨C', h1, h2, h3, _⟩ := h.takeObj hf ho h0
    exact ⟨C', _, _, h1, h2, h3, hk⟩

/-! ### Own slices of a result become objects, or values -/

theorem RB1_own {s : Nat} {rows : List (List V)} {u : Value} : RB1 C (.own s rows) u = OwnR C s rows u := rfl
theorem RB1_other {c : V} {u : Value} (h : ∀ s rows, c ≠ .own s rows) : RB1 C c u = R C c u := by
  unfold RB1; split <;> first | exact absurd rfl (h _ _) | rfl

theorem RB1_mono {C' : Ctx} (hc : Le C C') (hw : C'.w = C.w) {c : V} {u : Value} (h : RB1 C c u) : RB1 C' c u := by
  by_cases hcc : ∃ s rows, c = .own s rows
  · obtain ⟨s, rows, rfl⟩ := hcc
    rw [RB1_own, OwnR_iff] at h ⊢
    rcases h with h | ⟨b, cap, h1, h2⟩
    · exact .inl h
    · exact .inr ⟨b, cap, h1, h2.1, h2.2.mono hc (by rw [hw])⟩
  · have hne : ∀ s rows, c ≠ .own s rows := fun s rows e => hcc ⟨s, rows, e⟩
    rw [RB1_other hne] at h ⊢
    exact h.mono hc

/-- What a thaw leaves. -/
structure Thawed (E : Ent) (n : Sz) (C : Ctx) (st : St) (a : Act) (os : List Nat) (ns : List Nat) (x : List Nat × List (Nat × AO)) (C' : Ctx) : Prop where
  inv : Inv E n C' (st.sets x.2) a
  w : C'.w = C.w
  le : Le C C'
  free : ∀ b, Free E C b → b ∉ os → Free E C' b
  sub : x.1.Sublist ns
  dead : ∀ r ∈ x.1, ((st.sets x.2).heap r).isDead = true
  other : ∀ r, r ∉ ns → (st.sets x.2).heap r = st.heap r
  F : ∀ b off, b ∉ os → C'.F b off → C.F b off
  G : C'.G = C.G
  obj : ∀ r L, C'.loc r = some L → (C'.heap r).isDead = false → (C.loc r = some L ∧ (C.heap r).isDead = false) ∨ L.blk ∈ os

theorem thawC_sound (h : Inv E n C st a) {c : V} {u : Value} {ns : List Nat} (hR : RB1 C c u) (hown : ∀ b ∈ owns1 c u, Free E C b) (hns : ns.Nodup) (hdead : ∀ r ∈ ns, (st.heap r).isDead = true) :
    ∃ C', Thawed E n C st a (owns1 c u) ns ((thawC c ns).2) C' ∧ R C' (thawC c ns).1 u := by
  by_cases hc : ∃ s rows, c = .own s rows
  · obtain ⟨s, rows, rfl⟩ := hc
    simp only [RB1, OwnR_iff] at hR
    cases ns with
    | nil =>
      rcases hR with ⟨rfl, hu⟩ | ⟨b, cap, rfl, hc0, ho⟩
      · refine ⟨C, ⟨h, rfl, h.le_grow (Ext.refl _) (fun _ _ h => h), fun b hb _ => hb, List.Sublist.refl _, fun r hr => by simp [thawC] at hr, fun r _ => rfl, fun _ _ _ h => h, rfl, fun _ _ h1 h2 => .inl ⟨h1, h2⟩⟩, ?_⟩
        rcases hu with rfl | ⟨b, off, rfl⟩
        · exact .slNil true s
        · exact .sl true s [] b off 0 (fun _ _ => undef) (by simp) (by simp [maxLen]) (by simp) (by simp) (fun i j c hij => by simp [at2] at hij) (fun i j c hij => by simp [at2] at hij) (fun i j c hij => by simp [at2] at hij)
      · have hc0' : cap ≠ 0 := by omega
        have hf := hown b (by simp [owns1, hc0'])
        obtain ⟨C', h1, h2, h3, h4, h5, h6, h7, h8⟩ := h.takeVal hf ho
        refine ⟨C', ⟨h1, h2, h4, fun b' hb' hne => ?_, List.Sublist.refl _, fun r hr => by simp [thawC] at hr, fun r _ => rfl, fun b' off hne hx => ((h7 b' off).1 hx).resolve_right (fun e => hne (by simp [owns1, e, hc0'])), h8, fun r L q1 q2 => .inl (by rw [h6] at q1; rw [h5] at q2; exact ⟨q1, q2⟩)⟩, h3⟩
        have hne' : b' ≠ b := fun e => hne (by simp [owns1, e, hc0'])
        exact hb'.mono (fun off hx => ((h7 b' off).1 hx).resolve_right hne') (fun h => by rw [h8]; exact h) (fun r L q1 q2 _ => by rw [h6] at q1; rw [h5] at q2; exact ⟨q1, q2⟩)
    | cons r ns =>
      have hr := hdead r (by simp)
      have hnr : r ∉ ns := (List.nodup_cons.1 hns).1
      have dd : ∀ r' ∈ ns, ((st.set r (.rows s rows)).heap r').isDead = true := fun r' hr' => by
        have : r' ≠ r := fun e => hnr (e ▸ hr')
        simp only [St.set, upd, this, if_false]
        exact hdead r' (by simp [hr'])
      rcases hR with ⟨rfl, hu⟩ | ⟨b, cap, rfl, hc0, ho⟩
      · refine ⟨{ C with heap := upd C.heap r (.rows s []), loc := upd C.loc r none }, ⟨h.obj hr (by unfold ObjOk; simp [upd]) (fun L' hL' => by cases hL'), rfl, h.le_obj hr _ _, fun b' hb' _ => ?_, List.sublist_cons_self _ _, dd, fun r' hr' => ?_, fun _ _ _ h => h, rfl, fun r' L q1 q2 => ?_⟩, ?_⟩
        · refine hb'.mono (fun _ h => h) (fun h => h) fun r' L q1 q2 _ => ?_
          by_cases e : r' = r
          · simp [upd, e] at q1
          · simp only [upd, e, if_false] at q1 q2; exact ⟨q1, q2⟩
        · have : r' ≠ r := fun e => hr' (by simp [e])
          simp [thawC, St.sets, St.set, upd, this]
        · by_cases e : r' = r
          · simp [upd, e] at q1
          · simp only [upd, e, if_false] at q1 q2; exact .inl ⟨q1, q2⟩
        · rcases hu with rfl | ⟨b, off, rfl⟩
          · exact .srefNil r s (by simp [upd]) (by simp [upd])
          · exact .srefZ r 0 s [] b off (by simp [upd]) (Nat.le_refl _)
      · have hc0' : cap ≠ 0 := by omega
        have hf := hown b (by simp [owns1, hc0'])
        obtain ⟨C', h1, h2, h3, h4, h5, h6, h7, h8⟩ := h.takeObj hf ho hr
        refine ⟨C', ⟨h1, h2, h4, fun b' hb' hne => ?_, List.sublist_cons_self _ _, dd, fun r' hr' => ?_, fun b' off _ hx => by rw [h7] at hx; exact hx, h8, fun r' L q1 q2 => ?_⟩, h3⟩
        · have hne' : b' ≠ b := fun e => hne (by simp [owns1, e, hc0'])
          refine hb'.mono (fun off hx => by rw [h7] at hx; exact hx) (fun h => by rw [h8]; exact h) fun r' L q1 q2 q3 => ?_
          by_cases e : r' = r
          · rw [h6] at q1
            simp only [upd, e, if_true, Option.some.injEq] at q1
            subst q1
            exact absurd q3.symm hne'
          · rw [h6] at q1; rw [h5] at q2
            simp only [upd, e, if_false] at q1 q2; exact ⟨q1, q2⟩
        · have : r' ≠ r := fun e => hr' (by simp [e])
          simp [thawC, St.sets, St.set, upd, this]
        · by_cases e : r' = r
          · rw [h6] at q1
            simp only [upd, e, if_true, Option.some.injEq] at q1
            subst q1
            exact .inr (by simp [owns1, hc0'])
          · rw [h6] at q1; rw [h5] at q2
            simp only [upd, e, if_false] at q1 q2; exact .inl ⟨q1, q2⟩
  · have hc' : ∀ s rows, c ≠ .own s rows := fun s rows e => hc ⟨s, rows, e⟩
    have e1 : thawC c ns = (c, ns, []) := by unfold thawC; split <;> first | exact absurd rfl (hc' _ _) | rfl
    rw [RB1_other hc'] at hR
    rw [e1]
    exact ⟨C, ⟨h, rfl, h.le_grow (Ext.refl _) (fun _ _ h => h), fun b hb _ => hb, List.Sublist.refl _, fun r hr => hdead r hr, fun r _ => rfl, fun _ _ _ h => h, rfl, fun _ _ h1 h2 => .inl ⟨h1, h2⟩⟩, hR⟩

end Go.Ab
