/-
  How a function begins.
-/
import Derived.Test.YtleilicpggnemaaMachS20
namespace Go.Ab
open Go

variable {E : Ent} {n : Sz} {C : Ctx} {st : St} {a : Act} {P : Program}

/-- An argument as the function's own: own slices and variables become objects, by the next names. -/
def enterA (v : V) (ns : List Nat) : V × List Nat × List (Nat × AO) :=
  match v with
  | .io cs => match ns with
    | r :: ns => (.ptr r 0, (thawL cs ns).2.1, (thawL cs ns).2.2 ++ [(r, .box (thawL cs ns).1)])
    | [] => (.undef, [], [])
  | v => thawC v ns
def enterL : List V → List Nat → List V × List Nat × List (Nat × AO)
  | [], ns => ([], ns, [])
  | v :: l, ns => ((enterA v ns).1 :: (enterL l (enterA v ns).2.1).1, (enterL l (enterA v ns).2.1).2.1, (enterA v ns).2.2 ++ (enterL l (enterA v ns).2.1).2.2)

/-- The state that a function begins in. -/
def St.first : St := { env := fun _ => .undef, heap := fun _ => .dead }
def St.enter (args : List V) (ns : List Nat) : St := { (St.first.sets (enterL args ns).2.2) with env := fun t => (enterL args ns).1.getD t .undef }

/-- A variable that the function may change. -/
structure BoxFree (E : Ent) (C : Ctx) (b base k : Nat) : Prop where
  F : (∀ off, ¬ C.F b off) ∨ ¬ C.G b
  rng : ∀ j, j < k → ¬ C.F b (base + j) ∧ E.Wr b (base + j)
  obj : ∀ r L, C.loc r = some L → (C.heap r).isDead = false → L.blk ≠ b

/-- What the beginning leaves. -/
structure Begun (E : Ent) (n : Sz) (C : Ctx) (st : St) (a : Act) (os ns : List Nat) (x : List Nat × List (Nat × AO)) (C' : Ctx) : Prop where
  inv : Inv E n C' (st.sets x.2) a
  w : C'.w = C.w
  le : Le C C'
  sub : x.1.Sublist ns
  dead : ∀ r ∈ x.1, ((st.sets x.2).heap r).isDead = true
  other : ∀ r, r ∉ ns → (st.sets x.2).heap r = st.heap r
  F : ∀ b off, b ∉ os → C'.F b off → C.F b off
  G : C'.G = C.G
  obj : ∀ r L, C'.loc r = some L → (C'.heap r).isDead = false → (C.loc r = some L ∧ (C.heap r).isDead = false) ∨ L.blk ∈ os

theorem Thawed.begun {os ns : List Nat} {x : List Nat × List (Nat × AO)} {C' : Ctx} (h : Thawed E n C st a os ns x C') : Begun E n C st a os ns x C' :=
  ⟨h.inv, h.w, h.le, h.sub, h.dead, h.other, h.F, h.G, h.obj⟩

theorem Begun.comp {os1 os2 ns ns1 ns2 : List Nat} {x1 x2 : List (Nat × AO)} {C1 C2 : Ctx} (h1 : Begun E n C st a os1 ns (ns1, x1) C1) (h2 : Begun E n C1 (st.sets x1) a os2 ns1 (ns2, x2) C2) :
    Begun E n C st a (os1 ++ os2) ns (ns2, x1 ++ x2) C2 := by
  refine ⟨by simp only [sets_append]; exact h2.inv, h2.w.trans h1.w, h1.le.trans h2.le, h2.sub.trans h1.sub, fun r hr => by simp only [sets_append]; exact h2.dead r hr, fun r hr => ?_, fun b off hn hx => ?_, h2.G.trans h1.G, fun r L q1 q2 => ?_⟩
  · simp only [sets_append]
    exact (h2.other r fun h => hr (h1.sub.subset h)).trans (h1.other r hr)
  · simp only [List.mem_append, not_or] at hn
    exact h1.F b off hn.1 (h2.F b off hn.2 hx)
  · rcases h2.obj r L q1 q2 with ⟨q3, q4⟩ | q3
    · rcases h1.obj r L q3 q4 with q5 | q5
      · exact .inl q5
      · exact .inr (List.mem_append_left _ q5)
    · exact .inr (List.mem_append_right _ q3)

theorem Begun.free {os ns : List Nat} {x : List Nat × List (Nat × AO)} {C' : Ctx} (h : Begun E n C st a os ns x C') {b : Nat} (hf : Free E C b) (hb : b ∉ os) : Free E C' b :=
  ⟨fun off hF => hf.F off (h.F b off hb hF), by rw [h.G]; exact hf.G, hf.W, fun r L q1 q2 e => by
    rcases h.obj r L q1 q2 with ⟨q3, q4⟩ | q3
    · exact hf.obj r L q3 q4 e
    · exact hb (e ▸ q3)⟩
theorem Begun.box {os ns : List Nat} {x : List Nat × List (Nat × AO)} {C' : Ctx} (h : Begun E n C st a os ns x C') {b base k : Nat} (hf : BoxFree E C b base k) (hb : b ∉ os) : BoxFree E C' b base k :=
  ⟨hf.F.imp (fun q off hF => q off (h.F b off hb hF)) (fun q => by rw [h.G]; exact q), fun j hj => ⟨fun hF => (hf.rng j hj).1 (h.F b _ hb hF), (hf.rng j hj).2⟩, fun r L q1 q2 e => by
    rcases h.obj r L q1 q2 with ⟨q3, q4⟩ | q3
    · exact hf.obj r L q3 q4 e
    · exact hb (e ▸ q3)⟩

theorem RA_mono {C' : Ctx} (hc : Le C C') (hw : C'.w = C.w) {c : V} {u : Value} (h : RA C c u) : RA C' c u := by
  by_cases hcc : ∃ cs, c = .io cs
  · obtain ⟨cs, rfl⟩ := hcc
    exact IoR_mono hc hw h
  · have hne : ∀ cs, c ≠ .io cs := fun cs e => hcc ⟨cs, e⟩
    rw [RA_other hne] at h ⊢
    exact RB1_mono hc hw h

theorem enterA_sound (h : Inv E n C st a) {v : V} {u : Value} {ns : List Nat} (hR : RA C v u) (hown : ∀ b ∈ ownsA C.w v u, Free E C b) (hnd : (ownsA C.w v u ++ boxA v u).Nodup)
    (hbox : ∀ cs, v = .io cs → ∃ b base, u = .pointer (some ⟨b, base, none⟩) ∧ BoxFree E C b base cs.length) (hns : ns.Nodup) (hdead : ∀ r ∈ ns, (st.heap r).isDead = true) :
    ∃ C', Begun E n C st a (ownsA C.w v u ++ boxA v u) ns (enterA v ns).2 C' ∧ R C' (enterA v ns).1 u := by
  by_cases hv : ∃ cs, v = .io cs
  · obtain ⟨cs, rfl⟩ := hv
    obtain ⟨b, base, rfl, hbf⟩ := hbox cs rfl
    cases ns with
    | nil =>
      refine ⟨C, ⟨h, rfl, h.le_grow (Ext.refl _) (fun _ _ h => h), List.Sublist.refl _, fun r hr => by simp [enterA] at hr, fun _ _ => rfl, fun _ _ _ h => h, rfl, fun _ _ h1 h2 => .inl ⟨h1, h2⟩⟩, .undef _⟩
    | cons r ns =>
      obtain ⟨b', base', cur, e, g, hu, hcur, hcell⟩ := hR
      cases hu
      have eo : ownsA C.w (.io cs) (.pointer (some ⟨b, base, none⟩)) = ownsL cs (cellsAt C.w b base cs.length) := rfl
      have eb : boxA (.io cs) (.pointer (some ⟨b, base, none⟩)) = [b] := rfl
      rw [eo, eb] at hnd ⊢
      rw [eo] at hown
      obtain ⟨nd1, _, ndj⟩ := List.nodup_append.1 hnd
      have hbn : b ∉ ownsL cs (cellsAt C.w b base cs.length) := fun hm => ndj b hm b (by simp) rfl
      obtain ⟨hrn, hns'⟩ := List.nodup_cons.1 hns
      have us_get : ∀ j, j < cs.length → (cellsAt C.w b base cs.length).getD j undef = cur.getD (base + j) undef := fun j hj => by
        rw [cellsAt_get _ _ _ _ _ hj, cell_of_row _ _ _ _ _ _ hcur, Array.getD_eq_getD_getElem?]
      obtain ⟨C1, t1, l1, r1⟩ := thawL_sound cs (cellsAt C.w b base cs.length) ns h (by rw [cellsAt_len]) (fun j c hj => by
          obtain ⟨a1, _, a3⟩ := hcell j c hj
          rw [us_get j (List.getElem?_eq_some_iff.1 hj).1, Array.getD_eq_getD_getElem?, a1]
          exact a3) hown nd1 hns' (fun r' hr' => hdead r' (by simp [hr']))
      rw [cellsAt_len] at l1
      have hb1 := t1.begun.box hbf hbn
      have hrd : ((st.sets (thawL cs ns).2.2).heap r).isDead = true := by rw [t1.other r hrn]; exact hdead r (by simp)
      have l2 := t1.inv.le_obj hrd (.box (thawL cs ns).1) (some ⟨b, base, 0⟩)
      have hcur1 : C1.w.heap[b]? = some (.cells cur e (0, 0)) := by rw [t1.w]; exact hcur
      have i2 := t1.inv.obj hrd (o := .box (thawL cs ns).1) (L := some ⟨b, base, 0⟩) (by
        unfold ObjOk
        simp only [upd, if_true]
        refine ⟨_, rfl, ⟨cur, e, fun j => cur.getD (base + j) undef, hcur1, fun j c hj => ?_⟩, fun j hj => ⟨(hb1.rng j (by omega)).1, .inr (hb1.rng j (by omega)).2⟩, hb1.F⟩
        have hjl : j < cs.length := by rw [← l1]; exact (List.getElem?_eq_some_iff.1 hj).1
        have hR := r1 j c hj
        rw [us_get j hjl] at hR
        obtain ⟨a1, a2, _⟩ := hcell j cs[j] (by simp)
        have e1 : cur.getD (base + j) undef = g j := by rw [Array.getD_eq_getD_getElem?, a1]; rfl
        rw [e1] at hR
        dsimp only
        rw [e1]
        exact ⟨a1, a2, hR.mono l2⟩) (by
        rintro L' hL' r' L'' _ hl ha
        cases hL'
        exact hb1.obj r' L'' hl ha)
      refine ⟨{ C1 with heap := upd C1.heap r (.box (thawL cs ns).1), loc := upd C1.loc r (some ⟨b, base, 0⟩) }, ⟨by simpa [enterA, sets_append, St.sets] using i2, t1.w, t1.le.trans l2, t1.sub.trans (List.sublist_cons_self _ _), fun r' hr' => ?_, fun r' hr' => ?_, fun b' off hn hx => ?_, t1.G, fun r' L q1 q2 => ?_⟩, ?_⟩
      · have : r' ≠ r := fun e => hrn (t1.sub.subset (by rw [← e]; exact hr'))
        simp only [enterA, sets_append, St.sets, St.set, upd, this, if_false]
        exact t1.dead r' hr'
      · simp only [List.mem_cons, not_or] at hr'
        simp only [enterA, sets_append, St.sets, St.set, upd, hr'.1, if_false]
        exact t1.other r' hr'.2
      · simp only [List.mem_append, not_or] at hn
        exact t1.F b' off hn.1 hx
      · by_cases e' : r' = r
        · simp only [upd, e', if_true, Option.some.injEq] at q1
          subst q1
          exact .inr (by simp)
        · simp only [upd, e', if_false] at q1 q2
          rcases t1.obj r' L q1 q2 with q3 | q3
          · exact .inl q3
          · exact .inr (List.mem_append_left _ q3)
      · have : R { C1 with heap := upd C1.heap r (.box (thawL cs ns).1), loc := upd C1.loc r (some ⟨b, base, 0⟩) } (.ptr r 0) (.pointer (some ⟨b, base + 0, none⟩)) :=
          .ptr r 0 (thawL cs ns).1 ⟨b, base, 0⟩ (by simp [upd]) (by simp [upd])
        simpa [enterA] using this
  · have hne : ∀ cs, v ≠ .io cs := fun cs e => hv ⟨cs, e⟩
    rw [RA_other hne] at hR
    rw [ownsA_other hne, boxA_other hne, List.append_nil] at hnd ⊢
    rw [ownsA_other hne] at hown
    have e : enterA v ns = thawC v ns := by unfold enterA; split <;> first | exact absurd rfl (hne _) | rfl
    rw [e]
    obtain ⟨C', t, hr⟩ := thawC_sound h hR hown hns hdead
    exact ⟨C', t.begun, hr⟩

theorem enterL_sound : ∀ (l : List V) (us : List Value) (ns : List Nat) {C : Ctx} {st : St}, Inv E n C st a → l.length = us.length → (∀ (j : Nat) (c : V), l[j]? = some c → RA C c (us.getD j undef)) →
    (∀ b ∈ listA (ownsA C.w) l us, Free E C b) → (listA (ownsA C.w) l us ++ listA boxA l us).Nodup → (∀ (i : Nat) cs, l[i]? = some (.io cs) → ∃ b base, us.getD i undef = .pointer (some ⟨b, base, none⟩) ∧ BoxFree E C b base cs.length) →
    ns.Nodup → (∀ r ∈ ns, (st.heap r).isDead = true) →
    ∃ C' os, Begun E n C st a os ns (enterL l ns).2 C' ∧ (enterL l ns).1.length = us.length ∧ ∀ (j : Nat) (c : V), (enterL l ns).1[j]? = some c → R C' c (us.getD j undef)
  | [], [], ns, C, st, h, _, _, _, _, _, _, hd => ⟨C, [], ⟨h, rfl, h.le_grow (Ext.refl _) (fun _ _ h => h), List.Sublist.refl _, hd, fun _ _ => rfl, fun _ _ _ h => h, rfl, fun _ _ h1 h2 => .inl ⟨h1, h2⟩⟩, rfl, fun j c hj => by simp [enterL] at hj⟩
  | [], _ :: _, _, _, _, _, hl, _, _, _, _, _, _ => by simp at hl
  | _ :: _, [], _, _, _, _, hl, _, _, _, _, _, _ => by simp at hl
  | v :: l, u :: us, ns, C, st, h, hl, hr, hf, hnd, hb, hns, hd => by
    simp only [listA] at hnd hf
    have hnd' : ((ownsA C.w v u ++ boxA v u) ++ (listA (ownsA C.w) l us ++ listA boxA l us)).Nodup := by
      refine (List.Perm.nodup_iff ?_).1 hnd
      simp only [List.append_assoc]
      refine List.Perm.append_left _ ?_
      rw [← List.append_assoc, ← List.append_assoc]
      exact List.Perm.append_right _ List.perm_append_comm
    obtain ⟨nd1, nd2, ndj⟩ := List.nodup_append.1 hnd'
    obtain ⟨C1, t1, r1⟩ := enterA_sound h (by simpa using hr 0 v rfl) (fun b hb => hf b (List.mem_append_left _ hb)) nd1 (fun cs e => by simpa using hb 0 cs (by simp [e])) hns hd
    obtain ⟨C2, os, t2, l2, r2⟩ := enterL_sound l us (enterA v ns).2.1 t1.inv (by simpa using hl) (fun j c hj => RA_mono t1.le t1.w (by simpa using hr (j + 1) c (by simpa using hj)))
      (by rw [t1.w]; exact fun b hb => t1.free (hf b (List.mem_append_right _ hb)) fun hm => ndj b hm b (List.mem_append_left _ hb) rfl) (by rw [t1.w]; exact nd2)
      (fun i cs hi => by
        obtain ⟨b, base, q1, q2⟩ := hb (i + 1) cs (by simpa using hi)
        refine ⟨b, base, by simpa using q1, t1.box q2 fun hm => ndj b hm b (List.mem_append_right _ ?_) rfl⟩
        have : ∀ (l : List V) (us : List Value) (i : Nat), l[i]? = some (.io cs) → us.getD i undef = .pointer (some ⟨b, base, none⟩) → b ∈ listA boxA l us := by
          intro l
          induction l with
          | nil => intro us i h1; simp at h1
          | cons v l ih =>
            intro us i h1 h2
            cases us with
            | nil => simp [List.getD, undef] at h2
            | cons u us =>
              cases i with
              | zero =>
                simp only [List.getElem?_cons_zero, Option.some.injEq] at h1
                simp only [List.getD_cons_zero] at h2
                subst h1 h2
                exact List.mem_append_left _ (by simp [boxA])
              | succ i => exact List.mem_append_right _ (ih us i (by simpa using h1) (by simpa using h2))
        exact this l us i (by simpa using hi) (by simpa using q1)) (t1.sub.nodup hns) t1.dead
    refine ⟨C2, _, t1.comp t2, by simp [enterL, l2], fun j c hj => ?_⟩
    cases j with
    | zero =>
      simp only [enterL, List.getElem?_cons_zero, Option.some.injEq] at hj
      subst hj
      exact r1.mono t2.le
    | succ j => simpa using r2 j c (by simpa [enterL] using hj)

end Go.Ab
