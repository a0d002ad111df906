/-
  Each operation of the abstract machine is what the model's operation does: results that thaw; alloc.
-/
import Derived.Test.YtleilicpggnemaaMachS9
namespace Go.Ab
open Go

variable {E : Ent} {n : Sz} {C : Ctx} {st : St} {a : Act} {P : Program}

theorem sets_append (st : St) : ∀ (l m : List (Nat × AO)), st.sets (l ++ m) = (st.sets l).sets m
  | [], _ => rfl
  | (r, o) :: l, m => sets_append (st.set r o) l m

theorem Thawed.refl (h : Inv E n C st a) {ns : List Nat} (hdead : ∀ r ∈ ns, (st.heap r).isDead = true) {os : List Nat} : Thawed E n C st a os ns (ns, []) C :=
  ⟨h, rfl, h.le_grow (Ext.refl _) (fun _ _ h => h), fun _ hb _ => hb, List.Sublist.refl _, hdead, fun _ _ => rfl, fun _ _ _ h => h, rfl, fun _ _ h1 h2 => .inl ⟨h1, h2⟩⟩

theorem Thawed.comp {os1 os2 ns ns1 ns2 : List Nat} {x1 x2 : List (Nat × AO)} {C1 C2 : Ctx} (h1 : Thawed E n C st a os1 ns (ns1, x1) C1) (h2 : Thawed E n C1 (st.sets x1) a os2 ns1 (ns2, x2) C2) :
    Thawed E n C st a (os1 ++ os2) ns (ns2, x1 ++ x2) C2 := by
  refine ⟨by simp only [sets_append]; exact h2.inv, h2.w.trans h1.w, h1.le.trans h2.le, fun b hb hn => ?_, h2.sub.trans h1.sub, fun r hr => by simp only [sets_append]; exact h2.dead r hr, fun r hr => ?_, fun b off hn hx => ?_, h2.G.trans h1.G, fun r L q1 q2 => ?_⟩
  · simp only [List.mem_append, not_or] at hn
    exact h2.free b (h1.free b hb hn.1) hn.2
  · simp only [sets_append]
    exact (h2.other r fun h => hr (h1.sub.subset h)).trans (h1.other r hr)
  · simp only [List.mem_append, not_or] at hn
    exact h1.F b off hn.1 (h2.F b off hn.2 hx)
  · rcases h2.obj r L q1 q2 with ⟨q3, q4⟩ | q3
    · rcases h1.obj r L q3 q4 with q5 | q5
      · exact .inl q5
      · exact .inr (List.mem_append_left _ q5)
    · exact .inr (List.mem_append_right _ q3)

theorem thawL_sound : ∀ (l : List V) (us : List Value) (ns : List Nat) {C : Ctx} {st : St}, Inv E n C st a → l.length = us.length → (∀ (j : Nat) (c : V), l[j]? = some c → RB1 C c (us.getD j undef)) →
    (∀ b ∈ ownsL l us, Free E C b) → (ownsL l us).Nodup → ns.Nodup → (∀ r ∈ ns, (st.heap r).isDead = true) →
    ∃ C', Thawed E n C st a (ownsL l us) ns (thawL l ns).2 C' ∧ (thawL l ns).1.length = us.length ∧ ∀ (j : Nat) (c : V), (thawL l ns).1[j]? = some c → R C' c (us.getD j undef)
  | [], [], ns, C, st, h, _, _, _, _, _, hd => ⟨C, Thawed.refl h hd, rfl, fun j c hj => by simp [thawL] at hj⟩
  | [], _ :: _, _, _, _, _, hl, _, _, _, _, _ => by simp at hl
  | _ :: _, [], _, _, _, _, hl, _, _, _, _, _ => by simp at hl
  | v :: l, u :: us, ns, C, st, h, hl, hr, hf, hnd, hns, hd => by
    simp only [ownsL, List.nodup_append] at hnd
    obtain ⟨_, hnd2, hdj⟩ := hnd
    obtain ⟨C1, t1, r1⟩ := thawC_sound h (hr 0 v rfl) (fun b hb => hf b (by simp only [ownsL, List.mem_append]; exact .inl hb)) hns hd
    have hr' : ∀ (j : Nat) (c : V), l[j]? = some c → RB1 C1 c (us.getD j undef) := fun j c hj => RB1_mono t1.le t1.w (by simpa using hr (j + 1) c (by simpa using hj))
    have hf' : ∀ b ∈ ownsL l us, Free E C1 b := fun b hb => t1.free b (hf b (by simp only [ownsL, List.mem_append]; exact .inr hb)) fun hb' => hdj b hb' b hb rfl
    obtain ⟨C2, t2, l2, r2⟩ := thawL_sound l us (thawC v ns).2.1 t1.inv (by simpa using hl) hr' hf' hnd2 (t1.sub.nodup hns) t1.dead
    refine ⟨C2, t1.comp t2, by simp [thawL, l2], fun j c hj => ?_⟩
    cases j with
    | zero =>
      simp only [thawL, List.getElem?_cons_zero, Option.some.injEq] at hj
      subst hj
      exact r1.mono t2.le
    | succ j => simpa using r2 j c (by simpa [thawL] using hj)

theorem thaw2_agg {cs : List V} {ns : List Nat} : thaw2 (.agg cs) ns = (.agg (thawL cs ns).1, (thawL cs ns).2) := rfl
theorem thaw2_other {v : V} {ns : List Nat} (h : ∀ cs, v ≠ .agg cs) : thaw2 v ns = thawC v ns := by
  unfold thaw2; split <;> first | exact absurd rfl (h _) | rfl
theorem RB2_other {v : V} {u : Value} (h : ∀ cs, v ≠ .agg cs) : RB2 C v u = RB1 C v u := by
  unfold RB2; split <;> first | exact absurd rfl (h _) | rfl
theorem owns2_other {v : V} {u : Value} (h : ∀ cs, v ≠ .agg cs) : owns2 v u = owns1 v u := by
  unfold owns2; split <;> first | exact absurd rfl (h _) | rfl

theorem RB2_mono {C' : Ctx} (hc : Le C C') (hw : C'.w = C.w) {c : V} {u : Value} (h : RB2 C c u) : RB2 C' c u := by
  by_cases hcc : ∃ cs, c = .agg cs
  · obtain ⟨cs, rfl⟩ := hcc
    obtain ⟨us, h1, h2, h3, h4⟩ := h
    exact ⟨us, h1, h2, h3, fun j c hj => RB1_mono hc hw (h4 j c hj)⟩
  · have hne : ∀ cs, c ≠ .agg cs := fun cs e => hcc ⟨cs, e⟩
    rw [RB2_other hne] at h ⊢
    exact RB1_mono hc hw h

theorem thaw2_sound {c : V} {u : Value} {ns : List Nat} (h : Inv E n C st a) (hR : RB2 C c u) (hown : ∀ b ∈ owns2 c u, Free E C b) (hnd : (owns2 c u).Nodup) (hns : ns.Nodup) (hdead : ∀ r ∈ ns, (st.heap r).isDead = true) :
    ∃ C', Thawed E n C st a (owns2 c u) ns (thaw2 c ns).2 C' ∧ R C' (thaw2 c ns).1 u := by
  by_cases hcc : ∃ cs, c = .agg cs
  · obtain ⟨cs, rfl⟩ := hcc
    obtain ⟨us, rfl, h2, h3, h4⟩ := hR
    have e : owns2 (.agg cs) (.agg us.toArray) = ownsL cs us := by simp [owns2]
    rw [e] at hown hnd ⊢
    obtain ⟨C', t, l, r⟩ := thawL_sound cs us ns h h2 h4 hown hnd hns hdead
    exact ⟨C', t, .agg _ us l h3 r⟩
  · have hne : ∀ cs, c ≠ .agg cs := fun cs e => hcc ⟨cs, e⟩
    rw [RB2_other hne] at hR
    rw [owns2_other hne] at hown ⊢
    rw [thaw2_other hne]
    exact thawC_sound h hR hown hns hdead

theorem thawT_sound : ∀ (l : List V) (us : List Value) (ns : List Nat) {C : Ctx} {st : St}, Inv E n C st a → l.length = us.length → (∀ (j : Nat) (c : V), l[j]? = some c → RB2 C c (us.getD j undef)) →
    (∀ b ∈ ownsT2 l us, Free E C b) → (ownsT2 l us).Nodup → ns.Nodup → (∀ r ∈ ns, (st.heap r).isDead = true) →
    ∃ C', Thawed E n C st a (ownsT2 l us) ns (thawT l ns).2 C' ∧ (thawT l ns).1.length = us.length ∧ ∀ (j : Nat) (c : V), (thawT l ns).1[j]? = some c → R C' c (us.getD j undef)
  | [], [], ns, C, st, h, _, _, _, _, _, hd => ⟨C, Thawed.refl h hd, rfl, fun j c hj => by simp [thawT] at hj⟩
  | [], _ :: _, _, _, _, _, hl, _, _, _, _, _ => by simp at hl
  | _ :: _, [], _, _, _, _, hl, _, _, _, _, _ => by simp at hl
  | v :: l, u :: us, ns, C, st, h, hl, hr, hf, hnd, hns, hd => by
    simp only [ownsT2, List.nodup_append] at hnd
    obtain ⟨hnd1, hnd2, hdj⟩ := hnd
    obtain ⟨C1, t1, r1⟩ := thaw2_sound h (hr 0 v rfl) (fun b hb => hf b (by simp only [ownsT2, List.mem_append]; exact .inl hb)) hnd1 hns hd
    have hr' : ∀ (j : Nat) (c : V), l[j]? = some c → RB2 C1 c (us.getD j undef) := fun j c hj => RB2_mono t1.le t1.w (by simpa using hr (j + 1) c (by simpa using hj))
    have hf' : ∀ b ∈ ownsT2 l us, Free E C1 b := fun b hb => t1.free b (hf b (by simp only [ownsT2, List.mem_append]; exact .inr hb)) fun hb' => hdj b hb' b hb rfl
    obtain ⟨C2, t2, l2, r2⟩ := thawT_sound l us (thaw2 v ns).2.1 t1.inv (by simpa using hl) hr' hf' hnd2 (t1.sub.nodup hns) t1.dead
    refine ⟨C2, t1.comp t2, by simp [thawT, l2], fun j c hj => ?_⟩
    cases j with
    | zero =>
      simp only [thawT, List.getElem?_cons_zero, Option.some.injEq] at hj
      subst hj
      exact r1.mono t2.le
    | succ j => simpa using r2 j c (by simpa [thawT] using hj)

theorem thaw_sound {c : V} {u : Value} {ns : List Nat} (h : Inv E n C st a) (hR : RB C c u) (hown : ∀ b ∈ ownsR c u, Free E C b) (hnd : (ownsR c u).Nodup) (hns : ns.Nodup) (hdead : ∀ r ∈ ns, (st.heap r).isDead = true) :
    ∃ C', Thawed E n C st a (ownsR c u) ns (thaw c ns).2 C' ∧ R C' (thaw c ns).1 u := by
  by_cases hcc : ∃ vs, c = .tup vs
  · obtain ⟨vs, rfl⟩ := hcc
    obtain ⟨us, rfl, h2, h4⟩ := hR
    have e : ownsR (.tup vs) (.tuple us.toArray) = ownsT2 vs us := by simp [ownsR]
    rw [e] at hown hnd ⊢
    obtain ⟨C', t, l, r⟩ := thawT_sound vs us ns h h2 h4 hown hnd hns hdead
    exact ⟨C', t, .tup _ us l r⟩
  · have hne : ∀ vs, c ≠ .tup vs := fun vs e => hcc ⟨vs, e⟩
    have e1 : RB C c u = RB2 C c u := by unfold RB; split <;> first | exact absurd rfl (hne _) | rfl
    have e2 : ownsR c u = owns2 c u := by unfold ownsR; split <;> first | exact absurd rfl (hne _) | rfl
    have e3 : thaw c ns = thaw2 c ns := by unfold thaw; split <;> first | exact absurd rfl (hne _) | rfl
    rw [e1] at hR
    rw [e2] at hown hnd ⊢
    rw [e3]
    exact thaw2_sound h hR hown hnd hns hdead

/-! ### alloc -/

theorem okOp_alloc {z : List V} {r : Nat} {objs : List Nat} {op : Op} (h : okOp P (.alloc z r objs) op = true) :
    ∃ t i v, op = .alloc t ∧ P.info? t = some i ∧ i.zero = some v ∧ zOwn z v.cells.toList = true ∧ (∀ u ∈ v.cells.toList, u.oneCell' = true) := by
  cases op with
  | alloc t =>
    simp only [okOp] at h
    obtain ⟨i, v, hi, hv, hf⟩ := zeroIs_spec h
    simp only [Bool.and_eq_true] at hf
    exact ⟨t, i, v, rfl, hi, hv, hf.1, fun u hu => Array.all_eq_true_iff_forall_mem.1 hf.2 u (by simpa using hu)⟩
  | _ => simp [okOp] at h

theorem zOwn_R : ∀ {l : List V} {m : List Value}, zOwn l m = true → l.length = m.length ∧ ownsL l m = [] ∧ ∀ (C : Ctx) (j : Nat) (c : V), l[j]? = some c → RB1 C c (m.getD j undef)
  | [], [], _ => ⟨rfl, rfl, fun _ j c hj => by simp at hj⟩
  | [], _ :: _, h => by simp [zOwn] at h
  | _ :: _, [], h => by simp [zOwn] at h
  | v :: l, u :: m, h => by
    unfold zOwn at h
    split at h
    · rename_i heq; cases heq
    · rename_i s l' m' e1 e2
      cases e1; cases e2
      obtain ⟨a1, a2, a3⟩ := zOwn_R h
      refine ⟨by simp [a1], by simp [ownsL, owns1, a2], fun C j c hj => ?_⟩
      cases j with
      | zero => simp at hj; subst hj; exact .inl ⟨rfl, rfl⟩
      | succ j => simpa using a3 C j c (by simpa using hj)
    · rename_i v' l' u' m' hne e1 e2
      cases e1; cases e2
      simp only [Bool.and_eq_true] at h
      obtain ⟨h1, h2⟩ := h
      obtain ⟨a1, a2, a3⟩ := zOwn_R h2
      have hno : ∀ s rows, v ≠ .own s rows := fun s rows e => by subst e; simp [constOk] at h1
      refine ⟨by simp [a1], ?_, fun C j c hj => ?_⟩
      · have : owns1 v u = [] := by unfold owns1; split <;> first | exact absurd rfl (hno _ _) | rfl
        simp [ownsL, this, a2]
      · cases j with
        | zero =>
          simp at hj; subst hj
          rw [RB1_other hno]; exact constOk_R h1 C
        | succ j => simpa using a3 C j c (by simpa using hj)
    · cases h

theorem snd_alloc {z : List V} {r : Nat} {objs : List Nat} : Snd P (.alloc z r objs) := by
  intro E n C st a o d K next Q hinv hok hd h hn
  obtain ⟨t, i, v, hop, hi, hv, hz, hz1⟩ := okOp_alloc hok
  obtain ⟨z1, z2, z3⟩ := zOwn_R hz
  simp only [eff] at h
  obtain ⟨hnd, hdead, hK⟩ := h
  replace hnd := nodupB_iff hnd
  have hdead' : ∀ r' ∈ r :: objs, (st.heap r').isDead = true := fun r' hr' => List.all_eq_true.1 hdead r' hr'
  obtain ⟨hr, hno⟩ := List.nodup_cons.1 hnd
  obtain ⟨C', t1, l1, r1⟩ := thawL_sound z v.cells.toList objs hinv z1 (z3 C) (by rw [z2]; simp) (by rw [z2]; simp) hno (fun r' hr' => hdead' r' (by simp [hr']))
  have hrd : ((st.sets (thawL z objs).2.2).heap r).isDead = true := by rw [t1.other r hr]; exact hdead' r (by simp)
  have hcur : (C'.w.alloc (.cells v.cells t)).heap[C'.w.heap.size]? = some (.cells v.cells t (0, 0)) := heap_alloc_new _ _
  obtain ⟨C2, h1, h2, h3, _⟩ := t1.inv.newBox (Ext.alloc C'.w (.cells v.cells t)) (Nat.le_refl _) hcur hrd (cs := (thawL z objs).1) (fun j c hj => by
    have hlt : j < v.cells.size := by have := (List.getElem?_eq_some_iff.1 hj).1; rw [l1] at this; simpa using this
    have e : v.cells.getD j undef = v.cells[j] := by simp [hlt]
    have e2 : v.cells.toList.getD j undef = v.cells[j] := by simp [hlt]
    have := r1 j c hj
    rw [e2] at this
    rw [e]
    exact ⟨by simp [hlt], hz1 _ (by simp), this⟩)
  refine wp_value (u := .pointer (some ⟨C'.w.heap.size, 0, none⟩)) (w' := C2.w) ?_ (hn C2 _ _ (h1.put hd h3) hK)
  rw [h2, t1.w]
  simp [execOp, hop, Instr.alloc, zeroValue, typeInfo, hi, hv, newVar, newRow]

end Go.Ab
