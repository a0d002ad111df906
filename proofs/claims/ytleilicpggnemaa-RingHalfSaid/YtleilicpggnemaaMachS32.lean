/-
  Regions in any order: the theorem.
-/
import Derived.Test.YtleilicpggnemaaMachS31
namespace Go.Ab
open Go

variable {E : Ent} {n : Sz} {C : Ctx} {st : St} {a : Act} {P : Program}

theorem R_live {v : V} {u : Value} (h : R C v u) : ∀ q, v.has (fun i => i == q) = true → (C.heap q).isDead = false := by
  have hasL_get : ∀ {l : List V} {p : Nat → Bool}, V.hasL p l = true → ∃ (j : Nat) (c : V), l[j]? = some c ∧ c.has p = true := by
    intro l p h
    induction l with
    | nil => simp [V.hasL] at h
    | cons v l ih =>
      simp only [V.hasL, Bool.or_eq_true] at h
      rcases h with h | h
      · exact ⟨0, v, rfl, h⟩
      · obtain ⟨j, c, h1, h2⟩ := ih h; exact ⟨j + 1, c, by simpa using h1, h2⟩
  induction h with
  | ptr r off cs L h hl => intro q hq; simp [V.has] at hq; subst hq; rw [h]; rfl
  | rptr r i off s rs L h hl hi => intro q hq; simp [V.has] at hq; subst hq; rw [h]; rfl
  | sref r i m s rs L h hl hi => intro q hq; simp [V.has] at hq; subst hq; rw [h]; rfl
  | srefNil r s h hl => intro q hq; simp [V.has] at hq; subst hq; rw [h]; rfl
  | srefZ r i s rs b off h hi => intro q hq; simp [V.has] at hq; subst hq; rw [h]; rfl
  | agg cs us hl h1 hr ih =>
    intro q hq
    obtain ⟨j, c, h2, h3⟩ := hasL_get (by simpa [V.has] using hq)
    exact ih j c h2 q h3
  | tup cs us hl hr ih =>
    intro q hq
    obtain ⟨j, c, h2, h3⟩ := hasL_get (by simpa [V.has] using hq)
    exact ih j c h2 q h3
  | fn f first caps us ws hl hl' hr hr' ih ih' =>
    intro q hq
    simp only [V.has, Bool.or_eq_true] at hq
    rcases hq with hq | hq
    · obtain ⟨j, c, h2, h3⟩ := hasL_get hq; exact ih j c h2 q h3
    · obtain ⟨j, c, h2, h3⟩ := hasL_get hq; exact ih' j c h2 q h3
  | _ => intro q hq; simp [V.has] at hq

/-- What a value leads to, lives. -/
theorem Inv.ground (h : Inv E n C st a) {st' : St} (hs : ∀ r, (st.heap r).isDead = false → st'.heap r = st.heap r) {v : V} {r : Nat} (hr : Reach st' v r) : (∀ q, v.has (fun i => i == q) = true → (st.heap q).isDead = false) → (st.heap r).isDead = false := by
  induction hr with
  | here h1 => intro hv; exact hv _ h1
  | box h1 hq hc t ih =>
    rename_i v q r cs c
    intro hv
    have hl := hv q h1
    rw [hs q hl] at hq
    refine ih fun q' hq' => ?_
    have ho := h.objs q
    unfold ObjOk at ho
    rw [h.heap, hq] at ho
    obtain ⟨L, _, ⟨cur, e, g, _, g3⟩, _⟩ := ho
    obtain ⟨j, hj⟩ := List.getElem?_of_mem hc
    have := R_live (g3 j c hj).2.2 q' hq'
    rw [h.heap] at this; exact this

theorem Inv.ev_live (h : Inv E n C st a) {x : X} (hx : x.okK = true) : ∀ q, (x.ev st).has (fun i => i == q) = true → (st.heap q).isDead = false := by
  intro q hq
  cases x with
  | t k => have := R_live (h.env k) q hq; rw [h.heap] at this; exact this
  | k v =>
    simp only [X.ev] at hq
    cases v with
    | undef => simp [V.has] at hq
    | _ => rw [closed_has _ _ hx] at hq; cases hq

theorem ahead (h : Inv E n C st a) {pre post : List (Op' × Nat)} {i : Op' × Nat} {K : St → Prop} (hk : wpOpsD P (pre ++ i :: post) st K) (hi : okClass i.1.op i.2 = true) (hix : ∀ x ∈ i.1.op.xs, x.okK = true)
    (hp : ∀ x ∈ pre, okClass x.1.op x.2 = true ∧ okPair x.2 i.2 = true ∧ apartO x.1 i.1 = true) : effG P i.1 st fun s => wpOpsD P (pre ++ post) s K := by
  by_cases hpre : pre = []
  · subst hpre
    exact hk.2
  · have hcls : ∀ x ∈ pre, _ := fun x hx => okPair_spec (hp x hx).2.1
    obtain ⟨x0, hx0⟩ := List.exists_mem_of_ne_nil pre hpre
    have hc : i.2 = 0 ∨ i.2 = 1 ∨ i.2 = 2 := by have := hcls x0 hx0; omega
    obtain ⟨st', hk', hs⟩ := pre_run pre (fun x hx => ⟨by have := hcls x hx; omega, (hp x hx).1⟩) hk
    obtain ⟨v, news, h1, h2⟩ := effG_does hc hi hk'.1 hk'.2
    have henv : ∀ t ∈ i.1.looks, st.env t = st'.env t := fun t ht => (hs.env fun x hx e => (apartO_spec (hp x hx).2.2).1 t e ht).symm
    have hheap : i.2 = 1 → ∀ r, (st.heap r).isDead = false → st'.heap r = st.heap r := fun hi1 r hr => hs.heap (fun x hx => by have := hcls x hx; omega) hr
    refine h2.again st ⟨henv, fun hi1 x hx r hr hl => ?_, fun hi2 => (hs.heap0 fun x hx => by have := hcls x hx; omega).symm⟩ (fun _ _ _ _ => trivial) (fun hi1 r _ hd => ?_) _ ?_
    · have ee : x.ev st' = x.ev st := (ev_same henv x hx).symm
      rw [ee] at hr
      have hlive := h.ground (hheap hi1) hr (h.ev_live (hix x hx))
      exact (hheap hi1 r hlive).symm
    · by_cases hl : (st.heap r).isDead = true
      · exact hl
      · have hl' : (st.heap r).isDead = false := by simpa using hl
        rw [hheap hi1 r hl', hl'] at hd; cases hd
    · exact hs.replay (fun hi0 => h2.pure hi0) (fun hi1 y hy => ((h2.quiet hi1).1 y hy).1) (fun x hx => (hp x hx).2) (fun hi1 y hy => (h2.quiet hi1).2 y.1 (List.mem_map_of_mem hy)) h1

/-- The same, where the last of those ahead is an append, and i a load that may go ahead of it. -/
theorem ahead_swap (h : Inv E n C st a) {pre post : List (Op' × Nat)} {x i : Op' × Nat} {K : St → Prop} (hk : wpOpsD P ((pre ++ [x]) ++ i :: post) st K) (hi : okClass i.1.op i.2 = true) (hix : ∀ x ∈ i.1.op.xs, x.okK = true)
    (hp : ∀ x ∈ pre, okClass x.1.op x.2 = true ∧ okPair x.2 i.2 = true ∧ apartO x.1 i.1 = true) (hs : swapOk x i = true) : effG P i.1 st fun s => wpOpsD P ((pre ++ [x]) ++ post) s K := by
  rw [List.append_assoc, wpOpsD_append] at hk
  have hk' : wpOpsD P (pre ++ i :: (x :: post)) st K := wpOpsD_append.2 (wpOpsD_mono hk fun s h' => swap hs h')
  have := ahead h hk' hi hix hp
  refine effG_mono this fun s h' => ?_
  rw [List.append_assoc]; exact h'

theorem opsD_sound {ops : Array Oper} {Q : Exit → Act → World → Prop} {K : St → Prop} (hn : ∀ C' st' a', Inv E n C' st' a' → K st' → Q .normal a' C'.w) :
    ∀ (l : List (Op' × Nat)) (k : Nat) {C : Ctx} {st : St} {a : Act}, okOpers P ops n (l.map (·.1)) (ops.toList.drop k) = true → Inv E n C st a → wpOpsD P l st K → Go.wpOps P ops Q (List.range' k l.length) a C.w
  | [], k, C, st, a, _, h, hk => hn C st a h hk
  | o :: l, k, C, st, a, hok, h, hk => by
    cases hp : ops.toList.drop k with
    | nil => rw [hp] at hok; simp [okOpers] at hok
    | cons p ps =>
      rw [hp] at hok
      simp only [List.map_cons, okOpers, Bool.and_eq_true] at hok
      have hpk : ops[k]? = some p := by
        have : (ops.toList.drop k)[0]? = some p := by rw [hp]; rfl
        simpa using this
      have hps : ops.toList.drop (k + 1) = ps := by
        rw [← List.drop_drop, hp]; rfl
      simp only [List.length_cons, List.range'_succ]
      rw [wpOps_cons]
      refine effG_sound h hpk hok.1 hk.2 fun C' st' a' h' hk' => ?_
      exact opsD_sound hn l (k + 1) (by rw [hps]; exact hok.2) h' hk'

theorem okOpers_get {ops : Array Oper} : ∀ {l : List Op'} {m : List Oper}, okOpers P ops n l m = true → ∀ (i : Nat) p, m[i]? = some p → ∃ o, l[i]? = some o ∧ okOper P ops n o p = true
  | [], [], _, i, p, h => by simp at h
  | [], _ :: _, h, _, _, _ => by simp [okOpers] at h
  | _ :: _, [], h, _, _, _ => by simp [okOpers] at h
  | o :: l, q :: m, h, i, p, hi => by
    simp only [okOpers, Bool.and_eq_true] at h
    cases i with
    | zero => simp at hi; subst hi; exact ⟨o, rfl, h.1⟩
    | succ i => simpa using okOpers_get h.2 i p (by simpa using hi)

theorem mem_afterB {ops : Array Oper} {i : Nat} {o : Oper} (ho : ops[i]? = some o) {e : Nat} : e ∈ afterB ops i ↔ ∃ x ∈ o.after, Region.binds .any x = true ∧ x.on = e := by
  simp only [afterB, ho, List.mem_map, List.mem_filter]
  constructor
  · rintro ⟨x, ⟨h1, h2⟩, h3⟩; exact ⟨x, by simpa using h1, h2, h3⟩
  · rintro ⟨x, h1, h2, h3⟩; exact ⟨x, ⟨by simpa using h1, h2⟩, h3⟩

/-- What okD says. -/
structure OkD (ops : Array Oper) (l : List (Op' × Nat)) (an : List (List Nat)) : Prop where
  len : l.length = ops.size
  cls : ∀ (i : Nat) o, l[i]? = some o → okClass o.1.op o.2 = true ∧ ∀ x ∈ o.1.op.xs, x.okK = true
  lt : ∀ i, i < ops.size → ∀ e ∈ afterB ops i, e < i
  anc : ∀ i, i < ops.size → ∀ x ∈ an.getD i [], ∃ e ∈ afterB ops i, e = x ∨ x ∈ an.getD e []
  pair : ∀ i, i < ops.size → ∀ x, x < i → x ∉ an.getD i [] → ∃ ox oi, l[x]? = some ox ∧ l[i]? = some oi ∧ ((okPair ox.2 oi.2 = true ∧ apartO ox.1 oi.1 = true) ∨ (x + 1 = i ∧ swapOk ox oi = true))

theorem okD_spec {ops : Array Oper} {l : List (Op' × Nat)} (h : okD ops l = true) : OkD ops l (ancs ops.toList) := by
  unfold okD at h
  simp only [Bool.and_eq_true, List.all_eq_true, List.mem_range, decide_eq_true_eq, beq_iff_eq, Bool.or_eq_true, List.any_eq_true] at h
  obtain ⟨⟨h1, h2⟩, h3⟩ := h
  refine ⟨h2, fun i o ho => ?_, fun i hi e he => (h3 i hi).1.1 e he, fun i hi x hx => ?_, fun i hi x hx hn => ?_⟩
  · obtain ⟨q1, q2⟩ := h1 o (List.mem_of_getElem? ho)
    exact ⟨q1, q2⟩
  · obtain ⟨e, he, h4⟩ := (h3 i hi).1.2 x hx
    exact ⟨e, he, h4.imp id inl_iff.1⟩
  · rcases (h3 i hi).2 x hx with h4 | h4
    · exact absurd (inl_iff.1 h4) hn
    · rcases h4 with h4 | h4
      · unfold pairOk at h4
        split at h4
        · rename_i ox oi e1 e2
          simp only [Bool.and_eq_true] at h4
          exact ⟨ox, oi, e1, e2, .inl h4⟩
        · cases h4
      · unfold swapAt at h4
        simp only [Bool.and_eq_true, beq_iff_eq] at h4
        obtain ⟨e0, h4⟩ := h4
        split at h4
        · rename_i ox oi e1 e2
          exact ⟨ox, oi, e1, e2, .inr ⟨e0, h4⟩⟩
        · cases h4

theorem any_sound {ops : Array Oper} {Q : Exit → Act → World → Prop} {K : St → Prop} (hn : ∀ C' st' a', Inv E n C' st' a' → K st' → Q .normal a' C'.w) {l : List (Op' × Nat)} {an : List (List Nat)} (hd : OkD ops l an)
    (hok : okOpers P ops n (l.map (·.1)) ops.toList = true) : ∀ (fuel : Nat) (rem : List Nat) (listed : Array Bool) {C : Ctx} {st : St} {a : Act}, rem.length = fuel → rem.Pairwise (· < ·) →
      (∀ j, j ∈ rem ↔ j < ops.size ∧ listed.getD j true = false) → (∀ j, j < ops.size → j ∉ rem → listed.getD j false = true) → (∀ j, j < ops.size → j ∉ rem → ∀ x ∈ an.getD j [], x ∉ rem) → listed.size = ops.size →
      Inv E n C st a → wpOpsD P (rem.map fun j => l.getD j default) st K → wpAny P .any ops Q fuel listed a C.w
  | 0, rem, listed, C, st, a, hl, _, hr, _, _, _, h, hk => by
    have : rem = [] := List.eq_nil_of_length_eq_zero hl
    subst this
    refine ⟨?_, hn C st a h hk⟩
    cases hz : Region.ready .any ops listed with
    | nil => rfl
    | cons i is =>
      have hi : i ∈ Region.ready .any ops listed := by rw [hz]; simp
      obtain ⟨h1, o, h2, _⟩ := mem_ready.1 hi
      have := (hr i).2 ⟨(Array.getElem?_eq_some_iff.1 h2).1, h1⟩
      simp at this
  | fuel + 1, rem, listed, C, st, a, hl, hsort, hr, hr', hdown, hsz, h, hk => by
    refine ⟨fun hz => ?_, fun i hi => ?_⟩
    · -- the first is ready
      exfalso
      cases rem with
      | nil => simp at hl
      | cons j js =>
        obtain ⟨hj1, hj2⟩ := (hr j).1 (by simp)
        have : j ∈ Region.ready .any ops listed := by
          refine mem_ready.2 ⟨hj2, ops[j], by simp [hj1], fun e he hb => ?_⟩
          have hlt := hd.lt j hj1 e.on ((mem_afterB (by simp [hj1])).2 ⟨e, he, hb, rfl⟩)
          refine hr' e.on (by omega) fun hm => ?_
          rcases List.mem_cons.1 hm with hm | hm
          · omega
          · have := (List.pairwise_cons.1 hsort).1 e.on hm; omega
        rw [hz] at this; simp at this
    · obtain ⟨h1, o, h2, h3⟩ := mem_ready.1 hi
      have hisz := (Array.getElem?_eq_some_iff.1 h2).1
      have him : i ∈ rem := (hr i).2 ⟨hisz, h1⟩
      obtain ⟨pre, post, rfl⟩ := List.append_of_mem him
      have hfresh : ∀ x ∈ an.getD i [], x ∉ pre ++ i :: post := fun x hx hm => by
        obtain ⟨e, he, h4⟩ := hd.anc i hisz x hx
        obtain ⟨ed, h5, h6, rfl⟩ := (mem_afterB h2).1 he
        have hl' := h3 ed h5 h6
        have hlt := hd.lt i hisz _ he
        have hen : ed.on ∉ pre ++ i :: post := fun hm' => by
          have := ((hr ed.on).1 hm').2
          have hs : ed.on < listed.size := by omega
          simp [hs] at this hl'
          rw [hl'] at this; cases this
        rcases h4 with rfl | h4
        · exact hen hm
        · exact hdown ed.on (by omega) hen x h4 hm
      obtain ⟨oi, ho1, ho2⟩ := okOpers_get hok i o (by simpa using h2)
      obtain ⟨li, hli⟩ : ∃ li, l[i]? = some li := ⟨l[i]'(by rw [hd.len]; exact hisz), by simp⟩
      have e1 : oi = li.1 := by simp [hli] at ho1; exact ho1.symm
      subst e1
      have eli : l.getD i default = li := by simp [List.getD, hli]
      have hprelt : ∀ x ∈ pre, x < i := fun x hx => (List.pairwise_append.1 hsort).2.2 x hx i (by simp)
      rw [List.map_append, List.map_cons, eli] at hk
      have hpair : ∀ j ∈ pre, okClass (l.getD j default).1.op (l.getD j default).2 = true ∧ ((okPair (l.getD j default).2 li.2 = true ∧ apartO (l.getD j default).1 li.1 = true) ∨ (j + 1 = i ∧ swapOk (l.getD j default) li = true)) := fun j hj => by
        have hjn : j ∉ an.getD i [] := fun hm => hfresh j hm (List.mem_append_left _ hj)
        obtain ⟨ox, oi, p1, p2, p3⟩ := hd.pair i hisz j (hprelt j hj) hjn
        rw [hli] at p2; cases p2
        have ej : l.getD j default = ox := by simp [List.getD, p1]
        rw [ej]
        exact ⟨(hd.cls j ox p1).1, p3⟩
      have hah : effG P li.1 st fun s => wpOpsD P ((pre.map fun j => l.getD j default) ++ post.map fun j => l.getD j default) s K := by
        by_cases hall : ∀ j ∈ pre, okPair (l.getD j default).2 li.2 = true ∧ apartO (l.getD j default).1 li.1 = true
        · exact ahead h hk (hd.cls i li hli).1 (hd.cls i li hli).2 (fun x hx => by
            obtain ⟨j, hj, rfl⟩ := List.mem_map.1 hx
            exact ⟨(hpair j hj).1, hall j hj⟩)
        · -- the one that may not be passed else stands right ahead
          obtain ⟨j0, hj0, hno⟩ : ∃ j ∈ pre, ¬ (okPair (l.getD j default).2 li.2 = true ∧ apartO (l.getD j default).1 li.1 = true) := by
            refine Classical.byContradiction fun hc => hall fun j hj => ?_
            exact Classical.byContradiction fun hc2 => hc ⟨j, hj, hc2⟩
          obtain ⟨e0, hsw⟩ := (hpair j0 hj0).2.resolve_left hno
          obtain ⟨pre1, pre2, rfl⟩ := List.append_of_mem hj0
          have hp2 : pre2 = [] := by
            cases pre2 with
            | nil => rfl
            | cons k ks =>
              exfalso
              have h1 := hprelt k (by simp)
              have h2' : j0 < k := by
                have := (List.pairwise_append.1 hsort).1
                exact (List.pairwise_cons.1 (List.pairwise_append.1 this).2.1).1 k (by simp)
              omega
          subst hp2
          have hprelt1 : ∀ j ∈ pre1, j < j0 := fun j hj => (List.pairwise_append.1 (List.pairwise_append.1 hsort).1).2.2 j hj j0 (by simp)
          rw [List.map_append, List.map_cons, List.map_nil] at hk ⊢
          exact ahead_swap h hk (hd.cls i li hli).1 (hd.cls i li hli).2 (fun x hx => by
            obtain ⟨j, hj, rfl⟩ := List.mem_map.1 hx
            have hq := hpair j (by simp [hj])
            refine ⟨hq.1, hq.2.resolve_right fun hc => ?_⟩
            have := hprelt1 j hj
            omega) hsw
      refine effG_sound h h2 ho2 hah fun C' st' a' h' hk' => ?_
      have hni : i ∉ pre ++ post := fun hm => by
        rcases List.mem_append.1 hm with hm | hm
        · exact absurd (hprelt i hm) (Nat.lt_irrefl i)
        · exact absurd ((List.pairwise_cons.1 (List.pairwise_append.1 hsort).2.1).1 i hm) (Nat.lt_irrefl i)
      have hmem : ∀ j, j ∈ pre ++ post ↔ j ∈ pre ++ i :: post ∧ j ≠ i := fun j => by
        simp only [List.mem_append, List.mem_cons]
        constructor
        · intro hm
          refine ⟨hm.elim .inl (fun h => .inr (.inr h)), fun e => hni (by subst e; simpa using hm)⟩
        · rintro ⟨hm | rfl | hm, hne⟩
          · exact .inl hm
          · exact absurd rfl hne
          · exact .inr hm
      refine any_sound hn hd hok fuel (pre ++ post) (listed.setIfInBounds i true) (by simp at hl ⊢; omega) (hsort.sublist (List.Sublist.append_left (List.sublist_cons_self _ _) _)) (fun j => ?_) (fun j hj hjn => ?_) (fun j hj hjn x hx hm => ?_) (by simp [hsz]) h' (by rw [List.map_append]; exact hk')
      · rw [hmem, hr]
        by_cases e : j = i
        · subst e
          have hs : j < listed.size := by omega
          simp [hs]
        · rw [getD_set_ne true (fun e' => e e'.symm)]
          simp [e]
      · by_cases e : j = i
        · subst e
          have hs : j < listed.size := by omega
          simp [hs]
        · rw [getD_set_ne false (fun e' => e e'.symm)]
          exact hr' j hj fun hm => hjn ((hmem j).2 ⟨hm, e⟩)
      · have hm' := ((hmem x).1 hm).1
        by_cases e : j = i
        · subst e; exact hfresh x hx hm'
        · exact hdown j hj (fun hm2 => hjn ((hmem j).2 ⟨hm2, e⟩)) x hx hm'

theorem regD (hm : P.follows .mixedOrders = true) : RegD P := by
  intro E n C st a ops id dr Q K l hn hok hD h hk
  have hd := okD_spec hD
  cases dr with
  | false =>
    refine wp_region ?_
    rw [List.range_eq_range', ← hd.len]
    exact opsD_sound hn l 0 (by simpa using hok) h hk
  | true =>
    refine wp_region_any hm ?_
    have h' := h.ext (w' := { C.w with drawn := C.w.drawn + 1 }) (Ext.drew C.w)
    have hmap : (List.range ops.size).map (fun j => l.getD j default) = l := by
      apply List.ext_getElem?
      intro i
      by_cases hi : i < ops.size
      · have hi' : i < l.length := by rw [hd.len]; exact hi
        simp [List.getElem?_range hi, List.getD, hi']
      · rw [List.getElem?_eq_none (by simpa using hi), List.getElem?_eq_none (by rw [hd.len]; omega)]
    exact any_sound hn hd hok ops.size (List.range ops.size) (Array.replicate ops.size false) (by simp) List.pairwise_lt_range (fun j => by
      simp only [List.mem_range]
      constructor
      · intro hj; exact ⟨hj, by simp [hj]⟩
      · exact fun hj => hj.1) (fun j hj hjn => absurd (List.mem_range.2 hj) hjn) (fun j hj hjn => absurd (List.mem_range.2 hj) hjn) (by simp) h' (by rw [hmap]; exact hk)

end Go.Ab
