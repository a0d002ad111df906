/-
  Calls: variables that were handed over.
-/
import Derived.Test.YtleilicpggnemaaMachS15
namespace Go.Ab
open Go

variable {E : Ent} {n : Sz} {C : Ctx} {st : St} {a : Act} {P : Program}

theorem kills_box {l : List Nat} {r : Nat} {cs : List V} (hr : r ∉ l) (h : st.heap r = .box cs) : ∃ cs', (st.kills l).heap r = .box cs' ∧ cs'.length = cs.length := by
  cases l with
  | nil => exact ⟨cs, h, rfl⟩
  | cons k l =>
    have : inl (k :: l) r = false := by rw [← Bool.not_eq_true, inl_iff]; exact hr
    exact ⟨cs.map (V.kill1 (inl (k :: l))), by simp [St.kills, St.killP, this, h, AO.kill], by simp⟩
theorem kills_rows {l : List Nat} {r s : Nat} {rs : List (List V)} (hr : r ∉ l) (h : st.heap r = .rows s rs) : (st.kills l).heap r = .rows s rs := by
  cases l with
  | nil => exact h
  | cons k l =>
    have : inl (k :: l) r = false := by rw [← Bool.not_eq_true, inl_iff]; exact hr
    simp [St.kills, St.killP, this, h, AO.kill]
theorem kills_mem {l : List Nat} {r : Nat} (hr : r ∈ l) : (st.kills l).heap r = .dead := by
  cases l with
  | nil => simp at hr
  | cons k l => simp [St.kills, St.killP, inl_iff.2 hr]
theorem kills_dead {l : List Nat} {r : Nat} (h : (st.heap r).isDead = true) : ((st.kills l).heap r).isDead = true := by
  cases l with
  | nil => exact h
  | cons k l =>
    simp only [St.kills, St.killP]
    split
    · rfl
    · cases hh : st.heap r <;> rw [hh] at h <;> simp [AO.isDead] at h ⊢
      rfl
/-- What lives behind kills lived, and was not killed. -/
theorem kills_live {l : List Nat} {r : Nat} (h : ((st.kills l).heap r).isDead = false) : r ∉ l ∧ (st.heap r).isDead = false := by
  refine ⟨fun hr => by rw [kills_mem hr] at h; simp [AO.isDead] at h, ?_⟩
  rw [← Bool.not_eq_true]
  intro hd
  rw [kills_dead hd] at h; cases h

/-! ### Variables that are handed over are not known -/

theorem blank_wk {r off k : Nat} {cs : List V} {s : St} (hh : s.heap r = .box cs) (hl : off + k ≤ cs.length) :
    (∀ t, (s.blank r off k).env t = s.env t) ∧ (∀ q, Wk (s.heap q) ((s.blank r off k).heap q)) ∧ ∃ cs', (s.blank r off k).heap r = .box cs' ∧ ∀ (j : Nat) (c : V), cs'[j]? = some c → off ≤ j → j < off + k → c = .undef := by
  have hl' : off + (List.replicate k V.undef).length ≤ cs.length := by simpa using hl
  obtain ⟨s1, s2⟩ := setR_spec hl'
  have e : s.blank r off k = s.set r (.box (setR cs off (List.replicate k .undef))) := by simp [St.blank, hh]
  rw [e]
  refine ⟨fun t => rfl, fun q => ?_, setR cs off (List.replicate k .undef), by simp [St.set, upd], fun j c hj h1 h2 => ?_⟩
  · by_cases hq : q = r
    · subst hq
      refine .inr ⟨cs, _, hh, by simp [St.set, upd], s1, fun j c hj => ?_⟩
      rw [s2] at hj
      split at hj
      · simp only [List.getElem?_replicate] at hj
        split at hj
        · simp at hj; exact .inl hj.symm
        · cases hj
      · exact .inr hj
    · exact .inl (by simp [St.set, upd, hq])
  · rw [s2] at hj
    simp only [List.length_replicate] at hj
    rw [if_pos ⟨h1, h2⟩] at hj
    simp only [List.getElem?_replicate] at hj
    split at hj
    · simp at hj; exact hj.symm
    · cases hj

theorem blanks_spec : ∀ (ps : List Pm) (s : St), (∀ x k, Pm.io x k ∈ ps → ∃ r o cs, x.ev st = .ptr r o ∧ s.heap r = .box cs ∧ o + k ≤ cs.length) →
    (∀ t, (blanks st ps s).env t = s.env t) ∧ (∀ q, Wk (s.heap q) ((blanks st ps s).heap q)) ∧
    ∀ x k r o cs j c, Pm.io x k ∈ ps → x.ev st = .ptr r o → (blanks st ps s).heap r = .box cs → o ≤ j → j < o + k → cs[j]? = some c → c = .undef
  | [], s, _ => ⟨fun _ => rfl, fun _ => .refl _, fun _ _ _ _ _ _ _ h => by simp at h⟩
  | p :: ps, s, h => by
    cases p with
    | io x k =>
      obtain ⟨r, o, cs, h1, h2, h3⟩ := h x k (by simp)
      obtain ⟨b1, b2, cs', b3, b4⟩ := blank_wk h2 h3
      have e : blanks st (.io x k :: ps) s = blanks st ps (s.blank r o k) := by simp [blanks, h1]
      rw [e]
      obtain ⟨i1, i2, i3⟩ := blanks_spec ps (s.blank r o k) fun x' k' hm => by
        obtain ⟨r', o', cs2, q1, q2, q3⟩ := h x' k' (by simp [hm])
        rcases b2 r' with e' | ⟨c1, c2, e1, e2, e3, _⟩
        · exact ⟨r', o', cs2, q1, e'.trans q2, q3⟩
        · rw [q2] at e1; cases e1
          exact ⟨r', o', c2, q1, e2, by omega⟩
      refine ⟨fun t => (i1 t).trans (b1 t), fun q => (b2 q).trans (i2 q), fun x' k' r' o' cs2 j c hm q1 q2 q3 q4 q5 => ?_⟩
      rcases List.mem_cons.1 hm with hm | hm
      · cases hm
        rw [h1] at q1; cases q1
        rcases i2 r with e' | ⟨c1, c2, e1, e2, e3, e4⟩
        · rw [e', b3] at q2; cases q2
          exact b4 j c q5 q3 q4
        · rw [b3] at e1; cases e1
          rw [e2] at q2; cases q2
          exact (e4 j c q5).elim id fun h => b4 j c h q3 q4
      · exact i3 x' k' r' o' cs2 j c hm q1 q2 q3 q4 q5
    | ro x =>
      obtain ⟨i1, i2, i3⟩ := blanks_spec ps s fun x' k' hm => h x' k' (by simp [hm])
      exact ⟨i1, i2, fun x' k' r' o' cs2 j c hm => i3 x' k' r' o' cs2 j c (by simpa using hm)⟩
    | mv x k =>
      obtain ⟨i1, i2, i3⟩ := blanks_spec ps s fun x' k' hm => h x' k' (by simp [hm])
      exact ⟨i1, i2, fun x' k' r' o' cs2 j c hm => i3 x' k' r' o' cs2 j c (by simpa using hm)⟩

/-! ### What comes back into variables -/

theorem Thawed.comp' {os1 os2 ns1 ns2 : List Nat} {x1 x2 : List (Nat × AO)} {C1 C2 : Ctx} (h1 : Thawed E n C st a os1 ns1 ([], x1) C1) (h2 : Thawed E n C1 (st.sets x1) a os2 ns2 ([], x2) C2) :
    Thawed E n C st a (os1 ++ os2) (ns1 ++ ns2) ([], x1 ++ x2) C2 := by
  refine ⟨by simp only [sets_append]; exact h2.inv, h2.w.trans h1.w, h1.le.trans h2.le, fun b hb hn => ?_, List.nil_sublist _, fun r hr => by simp at hr, fun r hr => ?_, fun b off hn hx => ?_, h2.G.trans h1.G, fun r L q1 q2 => ?_⟩
  · simp only [List.mem_append, not_or] at hn
    exact h2.free b (h1.free b hb hn.1) hn.2
  · simp only [List.mem_append, not_or] at hr
    simp only [sets_append]
    exact (h2.other r hr.2).trans (h1.other r hr.1)
  · simp only [List.mem_append, not_or] at hn
    exact h1.F b off hn.1 (h2.F b off hn.2 hx)
  · rcases h2.obj r L q1 q2 with ⟨q3, q4⟩ | q3
    · rcases h1.obj r L q3 q4 with q5 | q5
      · exact .inl q5
      · exact .inr (List.mem_append_left _ q5)
    · exact .inr (List.mem_append_right _ q3)

theorem backC_sound (h : Inv E n C st a) {old new : V} {u : Value} (hR : RB1 C new u) (hown : ∀ b ∈ owns1 new u, Free E C b) (hdead : ∀ r ∈ objC old, (st.heap r).isDead = true) (hno : (backC old new).1.noOwn = true) :
    ∃ C', Thawed E n C st a (owns1 new u) (objC old) ([], (backC old new).2) C' ∧ R C' (backC old new).1 u := by
  by_cases hc : ∃ s rows, new = .own s rows
  · obtain ⟨s, rows, rfl⟩ := hc
    cases old with
    | sref r i k =>
      obtain ⟨C', t, hr⟩ := thawC_sound h (ns := [r]) hR hown (by simp) (fun r' hr' => hdead r' (by simpa [objC] using hr'))
      exact ⟨C', t, hr⟩
    | _ => simp [backC, V.noOwn] at hno
  · have hne : ∀ s rows, new ≠ .own s rows := fun s rows e => hc ⟨s, rows, e⟩
    have e : backC old new = (new, []) := by unfold backC; split <;> first | exact absurd rfl (hne _ _) | rfl
    rw [RB1_other hne] at hR
    rw [e]
    exact ⟨C, ⟨h, rfl, h.le_grow (Ext.refl _) (fun _ _ h => h), fun _ hb _ => hb, List.nil_sublist _, fun r hr => by simp at hr, fun _ _ => rfl, fun _ _ _ h => h, rfl, fun _ _ h1 h2 => .inl ⟨h1, h2⟩⟩, hR⟩

theorem backL_sound : ∀ (olds news : List V) (us : List Value) {C : Ctx} {st : St}, Inv E n C st a → olds.length = news.length → news.length = us.length → (∀ (j : Nat) (c : V), news[j]? = some c → RB1 C c (us.getD j undef)) →
    (∀ b ∈ ownsL news us, Free E C b) → (ownsL news us).Nodup → (olds.flatMap objC).Nodup → (∀ r ∈ olds.flatMap objC, (st.heap r).isDead = true) → (backL olds news).1.all V.noOwn = true →
    ∃ C', Thawed E n C st a (ownsL news us) (olds.flatMap objC) ([], (backL olds news).2) C' ∧ (backL olds news).1.length = us.length ∧ ∀ (j : Nat) (c : V), (backL olds news).1[j]? = some c → R C' c (us.getD j undef)
  | [], [], [], C, st, h, _, _, _, _, _, _, _, _ => ⟨C, ⟨h, rfl, h.le_grow (Ext.refl _) (fun _ _ h => h), fun _ hb _ => hb, List.nil_sublist _, fun r hr => by simp at hr, fun _ _ => rfl, fun _ _ _ h => h, rfl, fun _ _ h1 h2 => .inl ⟨h1, h2⟩⟩, rfl, fun j c hj => by simp [backL] at hj⟩
  | [], _ :: _, _, _, _, _, hl, _, _, _, _, _, _, _ => by simp at hl
  | _ :: _, [], _, _, _, _, hl, _, _, _, _, _, _, _ => by simp at hl
  | _, [], _ :: _, _, _, _, _, hl, _, _, _, _, _, _ => by simp at hl
  | _, _ :: _, [], _, _, _, _, hl, _, _, _, _, _, _ => by simp at hl
  | o :: os, v :: l, u :: us, C, st, h, hlo, hl, hr, hf, hnd, hns, hd, hno => by
    simp only [ownsL, List.nodup_append] at hnd
    obtain ⟨_, hnd2, hdj⟩ := hnd
    simp only [List.flatMap_cons, List.nodup_append] at hns
    obtain ⟨_, hns2, hnj⟩ := hns
    simp only [backL, List.all_cons, Bool.and_eq_true] at hno
    obtain ⟨C1, t1, r1⟩ := backC_sound h (hr 0 v rfl) (fun b hb => hf b (by simp only [ownsL, List.mem_append]; exact .inl hb)) (fun r hr => hd r (by simp only [List.flatMap_cons, List.mem_append]; exact .inl hr)) hno.1
    have hr' : ∀ (j : Nat) (c : V), l[j]? = some c → RB1 C1 c (us.getD j undef) := fun j c hj => RB1_mono t1.le t1.w (by simpa using hr (j + 1) c (by simpa using hj))
    have hf' : ∀ b ∈ ownsL l us, Free E C1 b := fun b hb => t1.free b (hf b (by simp only [ownsL, List.mem_append]; exact .inr hb)) fun hb' => hdj b hb' b hb rfl
    have hd' : ∀ r ∈ os.flatMap objC, ((st.sets (backC o v).2).heap r).isDead = true := fun r hr => by
      rw [t1.other r fun h' => hnj r h' r hr rfl]
      exact hd r (by simp only [List.flatMap_cons, List.mem_append]; exact .inr hr)
    obtain ⟨C2, t2, l2, r2⟩ := backL_sound os l us t1.inv (by simpa using hlo) (by simpa using hl) hr' hf' hnd2 hns2 hd' hno.2
    refine ⟨C2, by simpa [ownsL, backL] using t1.comp' t2, by simp [backL, l2], fun j c hj => ?_⟩
    cases j with
    | zero =>
      simp only [backL, List.getElem?_cons_zero, Option.some.injEq] at hj
      subst hj
      exact r1.mono t2.le
    | succ j => simpa using r2 j c (by simpa [backL] using hj)

/-- A variable is known anew. -/
theorem Inv.rebox (h : Inv E n C st a) {r : Nat} {cs cs' : List V} {L : Loc} (hh : C.heap r = .box cs) (hl : C.loc r = some L) (hlen : cs'.length = cs.length)
    (hc : ∀ cur e, C.w.heap[L.blk]? = some (.cells cur e (0, 0)) → CellsR C cs' (fun j => cur[L.base + j]?)) :
    Inv E n { C with heap := upd C.heap r (.box cs') } (st.set r (.box cs')) a ∧ Le C { C with heap := upd C.heap r (.box cs') } := by
  have hle : Le C { C with heap := upd C.heap r (.box cs') } := by
    refine ⟨fun b off hf => ⟨hf, rfl⟩, fun _ h => h, fun r' c1 _ h' => ⟨?_, rfl⟩, fun r' s rs _ h' => ⟨?_, rfl⟩⟩
    · by_cases e : r' = r
      · subst e; exact ⟨cs', by simp [upd]⟩
      · exact ⟨c1, by simp [upd, e, h']⟩
    · by_cases e : r' = r
      · subst e; rw [hh] at h'; cases h'
      · exact ⟨rs, by simp [upd, e, h'], rfl⟩
  have hdead : ∀ q, (upd C.heap r (.box cs') q).isDead = false → (C.heap q).isDead = false := fun q hq => by
    by_cases e : q = r
    · subst e; rw [hh]; rfl
    · simpa [upd, e] using hq
  refine ⟨{ heap := by simp [St.set, h.heap], env := fun t => (h.env t).mono hle
            objs := fun q => ?_
            inj := fun r1 r2 L1 L2 h1 h2 d1 d2 hb => h.inj r1 r2 L1 L2 h1 h2 (hdead r1 d1) (hdead r2 d2) hb
            fin := h.fin, gnew := h.gnew, gsub := h.gsub, par := h.par, fnew := h.fnew, frame := h.frame, defers := h.defers, size := h.size }, hle⟩
  by_cases e : q = r
  · subst e
    have ho := h.objs q
    unfold ObjOk at ho ⊢
    rw [hh] at ho
    simp only [upd, if_true]
    obtain ⟨L', hl', ⟨cur, e, g, g2, g3⟩, g4, g5⟩ := ho
    rw [hl] at hl'; cases hl'
    exact ⟨L, hl, ⟨cur, e, fun j => cur.getD (L.base + j) undef, g2, cells_of (f := fun j => L.base + j) ((hc cur e g2).mono hle)⟩, fun j hj => g4 j (hlen ▸ hj), g5⟩
  · exact (h.objs q).mono hle (by simp [upd, e]) rfl fun L' _ _ => ⟨rfl, fun _ h => h, fun h => h⟩

/-- What is known of a variable that comes back. -/
structure Back (st s : St) (C B : Ctx) (x : X) (k : Nat) (o : V) (u : Value) : Prop where
  it : ∃ r off L cs1 cs', x.ev st = .ptr r off ∧ s.heap r = .box cs1 ∧ off + k ≤ cs1.length ∧ C.loc r = some L ∧ u = .pointer (some ⟨L.blk, L.base + off, none⟩) ∧ o = .io cs' ∧ cs'.length = k ∧
    (oldC st r off k).length = k ∧ IoR B cs' u ∧ (backL (oldC st r off k) cs').1.all V.noOwn = true

theorem gone_io {x : X} {k r off : Nat} (hx : x.ev st = .ptr r off) : (Pm.io x k).gone st = (oldC st r off k).flatMap objC := by
  simp only [Pm.gone, hx, oldC]
  cases st.heap r <;> rfl

theorem backs_sound {B : Ctx} (hBh : ∀ r, B.heap r = .dead) : ∀ (ps : List Pm) (outs : List V) (us : List Value) {C : Ctx} {s : St}, Inv E n C s a → ps.length = outs.length → outs.length = us.length →
    (∀ b off, B.F b off → C.F b off) → (∀ b, B.G b → C.G b) → C.w = B.w →
    (∀ (i : Nat) x k, ps[i]? = some (.io x k) → ∃ o, outs[i]? = some o ∧ Back st s C B x k o (us.getD i undef)) →
    (ps.flatMap (·.gone st)).Nodup → (∀ r ∈ ps.flatMap (·.gone st), (s.heap r).isDead = true) → (ps.flatMap (·.box st)).Nodup →
    (∀ b ∈ listA (ownsA B.w) outs us, Free E C b) → (listA (ownsA B.w) outs us).Nodup →
    ∃ C', Inv E n C' (backs st ps outs s) a ∧ C'.w = C.w ∧ Le C C' ∧ (∀ b, Free E C b → b ∉ listA (ownsA B.w) outs us → Free E C' b) ∧
      ∀ r, (s.heap r).isDead = true → r ∉ ps.flatMap (·.gone st) → ((backs st ps outs s).heap r).isDead = true
  | [], [], [], C, s, h, _, _, _, _, _, _, _, _, _, _, _ => ⟨C, h, rfl, h.le_grow (Ext.refl _) (fun _ _ h => h), fun _ hb _ => hb, fun _ hr _ => hr⟩
  | [], _ :: _, _, _, _, _, hl, _, _, _, _, _, _, _, _, _, _ => by simp at hl
  | _ :: _, [], _, _, _, _, hl, _, _, _, _, _, _, _, _, _, _ => by simp at hl
  | _, [], _ :: _, _, _, _, _, hl, _, _, _, _, _, _, _, _, _ => by simp at hl
  | _, _ :: _, [], _, _, _, _, hl, _, _, _, _, _, _, _, _, _ => by simp at hl
  | p :: ps, o :: os, u :: us, C, s, h, hl1, hl2, hF, hG, hw, hb, hgn, hgd, hbn, hfree, hnd => by
    have hl1' : ps.length = os.length := by simpa using hl1
    have hl2' : os.length = us.length := by simpa using hl2
    simp only [List.flatMap_cons, List.nodup_append] at hgn hbn
    obtain ⟨hgn1, hgn2, hgj⟩ := hgn
    obtain ⟨hbn1, hbn2, hbj⟩ := hbn
    simp only [listA, List.nodup_append] at hnd
    obtain ⟨hnd1, hnd2, hndj⟩ := hnd
    have skip : (∀ x k, p ≠ .io x k) → ∃ C', Inv E n C' (backs st ps os s) a ∧ C'.w = C.w ∧ Le C C' ∧ (∀ b, Free E C b → b ∉ listA (ownsA B.w) (o :: os) (u :: us) → Free E C' b) ∧
      ∀ r, (s.heap r).isDead = true → r ∉ (p :: ps).flatMap (·.gone st) → ((backs st ps os s).heap r).isDead = true := fun _ => by
      obtain ⟨C', q1, q2, q3, q4, q5⟩ := backs_sound hBh ps os us h hl1' hl2' hF hG hw (fun i x k hi => by simpa using hb (i + 1) x k (by simpa using hi)) hgn2
        (fun r hr => hgd r (by simp only [List.flatMap_cons, List.mem_append]; exact .inr hr)) hbn2 (fun b hb => hfree b (by simp only [listA, List.mem_append]; exact .inr hb)) hnd2
      refine ⟨C', q1, q2, q3, fun b hb hn => q4 b hb fun hm => hn (by simp only [listA, List.mem_append]; exact .inr hm), fun r hr hn => q5 r hr fun hm => hn (by simp only [List.flatMap_cons, List.mem_append]; exact .inr hm)⟩
    cases p with
    | ro x => exact skip (fun _ _ e => by cases e)
    | mv x k => exact skip (fun _ _ e => by cases e)
    | io x k =>
      obtain ⟨o', ho', ⟨r, off, L, cs1, cs', b1, b2, b3, b4, b5, b6, b7, b8, b9, b10⟩⟩ := hb 0 x k rfl
      simp only [List.getElem?_cons_zero, Option.some.injEq] at ho'
      simp only [List.getD_cons_zero] at b5 b9
      subst ho' b6 b5
      have eg := gone_io (st := st) (x := x) (k := k) b1
      have eb : (Pm.io x k).box st = [r] := by simp [Pm.box, b1]
      simp only [List.flatMap_cons] at hgd
      rw [eg] at hgn1 hgj hgd
      rw [eb] at hbj
      -- the memory
      obtain ⟨blk, base, cur, e, g, c1, c2, c3⟩ := b9
      cases c1
      have c2' : C.w.heap[L.blk]? = some (.cells cur e (0, 0)) := by rw [hw]; exact c2
      have eo : ownsA B.w (.io cs') (.pointer (some ⟨L.blk, L.base + off, none⟩)) = ownsL cs' (cellsAt B.w L.blk (L.base + off) cs'.length) := rfl
      rw [eo] at hnd1 hndj
      have us_get : ∀ j, j < k → (cellsAt B.w L.blk (L.base + off) cs'.length).getD j undef = cur.getD (L.base + off + j) undef := fun j hj => by
        rw [cellsAt_get _ _ _ _ _ (b7 ▸ hj), cell_of_row _ _ _ _ _ _ c2, Array.getD_eq_getD_getElem?]
      have hle0 : Le B C := ⟨fun b off hf => ⟨hF b off hf, by rw [hw]⟩, hG, fun r cs _ hr => by (rw [hBh] at hr; cases hr), fun r s rs _ hr => by (rw [hBh] at hr; cases hr)⟩
      obtain ⟨C1, t1, l1, r1⟩ := backL_sound (oldC st r off k) cs' (cellsAt B.w L.blk (L.base + off) cs'.length) h (by rw [b8, b7]) (by rw [cellsAt_len])
        (fun j c hj => by
          have hjk : j < k := by rw [← b7]; exact (List.getElem?_eq_some_iff.1 hj).1
          obtain ⟨a1, a2, a3⟩ := c3 j c hj
          rw [us_get j hjk, Array.getD_eq_getD_getElem?, a1]
          exact RB1_mono hle0 hw a3)
        (fun b hb => hfree b (by simp only [listA, List.mem_append]; exact .inl (by rw [eo]; exact hb))) hnd1 hgn1 (fun q hq => hgd q (by simp only [List.mem_append]; exact .inl hq)) b10
      rw [cellsAt_len, b7] at l1
      have hrn : r ∉ (oldC st r off k).flatMap objC := fun hm => by
        have := hgd r (by simp only [List.mem_append]; exact .inl hm)
        rw [b2] at this; simp [AO.isDead] at this
      have hh1 : (s.sets (backL (oldC st r off k) cs').2).heap r = .box cs1 := by rw [t1.other r hrn]; exact b2
      have hC1 : C1.heap r = .box cs1 := by rw [t1.inv.heap]; exact hh1
      have hCr : C.heap r = .box cs1 := by rw [h.heap]; exact b2
      have hloc1 : C1.loc r = some L := (t1.le.box r cs1 rfl hCr).2.trans b4
      obtain ⟨s1, s2⟩ := setR_spec (cs := cs1) (vs := (backL (oldC st r off k) cs').1) (off := off) (by rw [l1]; exact b3)
      obtain ⟨i2, le2⟩ := t1.inv.rebox (cs' := setR cs1 off (backL (oldC st r off k) cs').1) hC1 hloc1 s1 (fun cur2 e2 hcur2 => by
        rw [t1.w, c2'] at hcur2; cases hcur2
        intro j c hj
        rw [s2, l1] at hj
        by_cases hjr : off ≤ j ∧ j < off + k
        · rw [if_pos hjr] at hj
          have hjk : j - off < k := by omega
          have hR := r1 _ c hj
          rw [us_get _ hjk] at hR
          have e3 : L.base + off + (j - off) = L.base + j := by omega
          obtain ⟨c', hc'⟩ : ∃ c', cs'[j - off]? = some c' := ⟨cs'[j - off]'(by omega), by simp⟩
          obtain ⟨a1, a2, _⟩ := c3 _ c' hc'
          rw [e3] at a1 hR
          rw [Array.getD_eq_getD_getElem?, a1] at hR
          exact ⟨_, a1, a2, hR⟩
        · rw [if_neg hjr] at hj
          have ho := t1.inv.objs r
          unfold ObjOk at ho
          rw [hC1] at ho
          obtain ⟨L', hl', ⟨cur3, e3, g3, g4, g5⟩, _⟩ := ho
          rw [hloc1] at hl'; cases hl'
          rw [t1.w, c2'] at g4; cases g4
          obtain ⟨a1, a2, a3⟩ := g5 j c hj
          exact ⟨_, a1, a2, a3⟩)
      have ebk : backs st (.io x k :: ps) (.io cs' :: os) s = backs st ps os ((s.sets (backL (oldC st r off k) cs').2).set r (.box (setR cs1 off (backL (oldC st r off k) cs').1))) := by
        simp [backs, b1, b2]
      rw [ebk]
      have lle : Le C { C1 with heap := upd C1.heap r (.box (setR cs1 off (backL (oldC st r off k) cs').1)) } := t1.le.trans le2
      have hfree2 : ∀ b, Free E C b → b ∉ ownsL cs' (cellsAt B.w L.blk (L.base + off) cs'.length) → Free E { C1 with heap := upd C1.heap r (.box (setR cs1 off (backL (oldC st r off k) cs').1)) } b := fun b hb hn =>
        (t1.free b hb hn).mono (fun _ h => h) (fun h => h) fun q L' q1 q2 _ => ⟨q1, by
          by_cases e : q = r
          · subst e; rw [hC1]; rfl
          · simpa [upd, e] using q2⟩
      -- heap of other names
      have hsame : ∀ q, q ∉ (oldC st r off k).flatMap objC → q ≠ r → ((s.sets (backL (oldC st r off k) cs').2).set r (.box (setR cs1 off (backL (oldC st r off k) cs').1))).heap q = s.heap q := fun q h1 h2 => by
        simp only [St.set, upd, h2, if_false]; exact t1.other q h1
      obtain ⟨C', q1, q2, q3, q4, q5⟩ := backs_sound hBh ps os us i2 hl1' hl2' (fun b off hf => (lle.F b off (hF b off hf)).1) (fun b hg => lle.G b (hG b hg)) (t1.w.trans hw)
        (fun i x' k' hi => by
          obtain ⟨o2, ho2, ⟨r2, off2, L2, cs2, cs2', d1, d2, d3, d4, d5, d6, d7, d8, d9, d10⟩⟩ := hb (i + 1) x' k' (by simpa using hi)
          have hne : r2 ≠ r := fun e => by
            subst e
            refine hbj r2 (by simp) r2 ?_ rfl
            rw [List.mem_flatMap]
            exact ⟨_, List.mem_of_getElem? hi, by simp [Pm.box, d1]⟩
          have hn2 : r2 ∉ (oldC st r off k).flatMap objC := fun hm => by
            have := hgd r2 (by simp only [List.mem_append]; exact .inl hm)
            rw [d2] at this; simp [AO.isDead] at this
          refine ⟨o2, by simpa using ho2, ⟨r2, off2, L2, cs2, cs2', d1, (hsame r2 hn2 hne).trans d2, d3, ?_, by simpa using d5, d6, d7, d8, by simpa using d9, d10⟩⟩
          have := (lle.box r2 cs2 rfl (by rw [h.heap]; exact d2)).2
          exact this.trans d4)
        hgn2 (fun q hq => by
          rw [hsame q (fun hm => hgj q hm q hq rfl) (fun e => by
            subst e
            have := hgd q (by simp only [List.mem_append]; exact .inr hq)
            rw [b2] at this; simp [AO.isDead] at this)]
          exact hgd q (by simp only [List.mem_append]; exact .inr hq)) hbn2
        (fun b hb => hfree2 b (hfree b (by simp only [listA, List.mem_append]; exact .inr hb)) fun hm => hndj b hm b hb rfl) hnd2
      refine ⟨C', q1, q2.trans t1.w, lle.trans q3, fun b hb hn => ?_, fun q hq hn => ?_⟩
      · simp only [listA, List.mem_append, not_or] at hn
        exact q4 b (hfree2 b hb (by rw [← eo]; exact hn.1)) hn.2
      · simp only [List.flatMap_cons, List.mem_append, not_or] at hn
        rw [eg] at hn
        refine q5 q ?_ hn.2
        rw [hsame q hn.1 (fun e => by subst e; rw [b2] at hq; simp [AO.isDead] at hq)]
        exact hq

end Go.Ab
