/-
  Regions in any order: an operation may be done ahead of others.
-/
import Derived.Test.YtleilicpggnemaaMachS30
import Derived.Test.YtleilicpggnemaaMachM
namespace Go.Ab
open Go

variable {E : Ent} {n : Sz} {C : Ctx} {st : St} {a : Act} {P : Program}

/-- What operations of classes 0 to 2 did, one behind the other. -/
inductive Script (P : Program) : List (Op' × Nat) → St → St → Prop where
  | nil {st : St} : Script P [] st st
  | cons {x : Op' × Nat} {l : List (Op' × Nat)} {st st' : St} {v : V} {news : List (Nat × AO)} (hd : Does P x.2 x.1 st v news) (hq : x.2 = 1 → quiet x.1 st) (t : Script P l ((st.sets news).put x.1.dst v) st') : Script P (x :: l) st st'

theorem pre_run : ∀ (pre : List (Op' × Nat)) {tail : List (Op' × Nat)} {st : St} {K : St → Prop}, (∀ x ∈ pre, (x.2 = 0 ∨ x.2 = 1 ∨ x.2 = 2) ∧ okClass x.1.op x.2 = true) → wpOpsD P (pre ++ tail) st K →
    ∃ st', wpOpsD P tail st' K ∧ Script P pre st st'
  | [], _, st, _, _, h => ⟨st, h, .nil⟩
  | x :: l, tail, st, K, hp, h => by
    obtain ⟨h1, h2⟩ := hp x (by simp)
    simp only [List.cons_append, wpOpsD] at h
    obtain ⟨v, news, h3, h4⟩ := effG_does h1 h2 h.1 h.2
    obtain ⟨st', h5, h6⟩ := pre_run l (fun y hy => hp y (by simp [hy])) h3
    exact ⟨st', h5, .cons h4 h.1 h6⟩

theorem Script.env {l : List (Op' × Nat)} {st st' : St} (h : Script P l st st') {t : Nat} (ht : ∀ x ∈ l, x.1.dst ≠ some t) : st'.env t = st.env t := by
  induction h with
  | nil => rfl
  | cons _ _ _ ih =>
    rw [ih fun y hy => ht y (by simp [hy]), put_env (ht _ (by simp)), sets_env]

theorem Script.heap {l : List (Op' × Nat)} {st st' : St} (h : Script P l st st') (hc : ∀ x ∈ l, x.2 = 0 ∨ x.2 = 1) {r : Nat} (hr : (st.heap r).isDead = false) : st'.heap r = st.heap r := by
  induction h with
  | nil => rfl
  | cons hd hq t ih =>
    rename_i x l st st' v news
    have e : ((st.sets news).put x.1.dst v).heap r = st.heap r := by
      rw [put_heap]
      refine sets_heap_not _ _ _ fun y hy e => ?_
      rcases hc x (by simp) with h0 | h1
      · rw [hd.pure h0] at hy; simp at hy
      · have := (hd.quiet h1).2 y.1 (List.mem_map_of_mem hy)
        rw [e, hr] at this; cases this
    rw [ih (fun y hy => hc y (by simp [hy])) (by rw [e]; exact hr), e]

theorem Script.heap0 {l : List (Op' × Nat)} {st st' : St} (h : Script P l st st') (hc : ∀ x ∈ l, x.2 = 0) : st'.heap = st.heap := by
  induction h with
  | nil => rfl
  | cons hd _ _ ih =>
    rw [ih fun y hy => hc y (by simp [hy]), put_heap, hd.pure (hc _ (by simp))]
    rfl

theorem quiet_same {o : Op'} {st st' : St} (h : ∀ t ∈ o.looks, st'.env t = st.env t) (hq : quiet o st) : quiet o st' := by
  have he := ev_same h
  obtain ⟨d, q, g⟩ := o
  cases q with
  | app s b x y m =>
    obtain ⟨s', hs⟩ := hq
    exact ⟨s', (he x (by simp [O.xs])).trans hs⟩
  | _ => exact hq

theorem apartO_spec {x y : Op'} (h : apartO x y = true) : (∀ d, x.dst = some d → d ∉ y.looks) ∧ (∀ d, x.dst = some d → y.dst ≠ some d) ∧ (∀ d, y.dst = some d → d ∉ x.looks) ∧ ∀ r ∈ x.op.names, r ∉ y.op.names := by
  unfold apartO at h
  simp only [Bool.and_eq_true, List.all_eq_true, Bool.not_eq_true'] at h
  obtain ⟨⟨h1, h2⟩, h3⟩ := h
  refine ⟨fun d hd hm => ?_, fun d hd => ?_, fun d hd hm => ?_, fun r hr hm => ?_⟩
  · rw [hd] at h1; simp only [Bool.and_eq_true, Bool.not_eq_true'] at h1; rw [inl_iff.2 hm] at h1; simp at h1
  · rw [hd] at h1; simp only [Bool.and_eq_true, bne_iff_ne] at h1; exact h1.2
  · rw [hd] at h2; simp only [Bool.not_eq_true'] at h2; rw [inl_iff.2 hm] at h2; cases h2
  · have := h3 r hr; rw [inl_iff.2 hm] at this; cases this

theorem okPair_spec {x c : Nat} (h : okPair x c = true) : (x = 0 ∧ c = 0) ∨ (x = 0 ∧ c = 1) ∨ (x = 1 ∧ c = 0) ∨ (x = 1 ∧ c = 1) ∨ (x = 0 ∧ c = 2) ∨ (x = 2 ∧ c = 0) := by
  unfold okPair at h
  split at h <;> simp_all

/-- The same, behind another operation's effect. -/
theorem Script.replay {c : Nat} {o : Op'} {si : List (Nat × AO)} {vi : V} (h0 : c = 0 → si = []) (h1 : c = 1 → ∀ y ∈ si, y.1 ∈ o.op.names) {l : List (Op' × Nat)} {st st' : St} (h : Script P l st st')
    (hp : ∀ x ∈ l, okPair x.2 c = true ∧ apartO x.1 o = true) (hdead : c = 1 → ∀ y ∈ si, (st'.heap y.1).isDead = true) {tail : List (Op' × Nat)} {K : St → Prop} (hk : wpOpsD P tail ((st'.sets si).put o.dst vi) K) :
    wpOpsD P (l ++ tail) ((st.sets si).put o.dst vi) K := by
  induction h with
  | nil => exact hk
  | cons hd hq t ih =>
    rename_i x l s s' v news
    have ih := ih (fun y hy => hp y (by simp [hy])) hdead hk
    obtain ⟨hpx, hax⟩ := hp x (by simp)
    obtain ⟨a1, a2, a3, a4⟩ := apartO_spec hax
    have hcls := okPair_spec hpx
    have hlooks : ∀ t ∈ x.1.looks, ((s.sets si).put o.dst vi).env t = s.env t := fun t ht => by
      rw [put_env (fun e => a3 t e ht), sets_env]
    -- what is dead behind all is dead ahead
    have hdead' : c = 1 → ∀ y ∈ si, (s.heap y.1).isDead = true := fun hc y hy => by
      have hall : ∀ z ∈ x :: l, z.2 = 0 ∨ z.2 = 1 := fun z hz => by
        have := okPair_spec (hp z hz).1
        omega
      by_cases hl : (s.heap y.1).isDead = true
      · exact hl
      · have hl' : (s.heap y.1).isDead = false := by simpa using hl
        have e := (Script.cons (x := x) hd hq t).heap hall hl'
        have := hdead hc y hy
        rw [e] at this; exact this
    have hheap : c ≠ 2 → ∀ r, (s.heap r).isDead = false → ((s.sets si).put o.dst vi).heap r = s.heap r := fun hc r hr => by
      rw [put_heap]
      refine sets_heap_not _ _ _ fun y hy e => ?_
      have : c = 0 ∨ c = 1 := by omega
      rcases this with h | h
      · rw [h0 h] at hy; simp at hy
      · have := hdead' h y hy
        rw [e, hr] at this; cases this
    simp only [List.cons_append, wpOpsD]
    refine ⟨fun hx => quiet_same hlooks (hq hx), ?_⟩
    refine hd.again _ ⟨hlooks, fun hx z hz r hr hl => hheap (by omega) r hl, fun hx => ?_⟩ (fun _ _ _ _ => trivial) (fun hx r hr hdr => ?_) _ ?_
    · have : c = 0 := by omega
      rw [put_heap, h0 this]; rfl
    · rw [put_heap]
      have : c = 0 ∨ c = 1 := by omega
      rcases this with h | h
      · rw [h0 h]; exact hdr
      · rw [sets_heap_not _ si r fun y hy e => a4 r hr (by rw [← e]; exact h1 h y hy)]; exact hdr
    · rw [effects_comm s (l := si) (m := news) (d := o.dst) (e := x.1.dst) (fun y hy z hz e => ?_) (fun t ht e => a2 t e ht)]
      · exact ih
      · have : (c = 0 ∨ x.2 = 0) ∨ (c = 1 ∧ x.2 = 1) := by omega
        rcases this with (h | h) | ⟨hc, hx⟩
        · rw [h0 h] at hy; simp at hy
        · rw [hd.pure h] at hz; simp at hz
        · exact a4 z.1 ((hd.quiet hx).1 z hz).1 (by rw [← e]; exact h1 hc y hy)


/-! ### A load ahead of an append -/

/-- Is an operation done? -/
def gd (o : Op') (st : St) : Option Bool :=
  match o.guard with
  | none => some true
  | some (t, w) => match st.env t with
    | .bool b => some (b == w)
    | .tup [] => some false
    | _ => none
def doG (P : Program) (o : Op') (st : St) (K : St → Prop) : Prop :=
  match gd o st with
  | some true => eff P o.op o.dst st K
  | some false => K (st.put o.dst (.tup []))
  | none => False

theorem effG_iff {o : Op'} {K : St → Prop} : effG P o st K ↔ doG P o st K := by
  unfold effG doG gd
  cases hg : o.guard with
  | none => exact Iff.rfl
  | some x =>
    obtain ⟨t, w⟩ := x
    simp only
    cases hT : st.env t with
    | bool b =>
      simp only
      by_cases hb : b = w
      · subst hb
        simp only [beq_self_eq_true]
        constructor
        · intro h; have := h.1 (by first | rfl | trivial); rwa [put_self hT] at this
        · intro h; exact ⟨fun _ => by rwa [put_self hT], fun e => by cases b <;> cases e⟩
      · have hnb : b = !w := by cases b <;> cases w <;> simp_all
        have hf : (b == w) = false := by simpa using hb
        rw [hf]
        constructor
        · intro h; have := h.2 hnb; rwa [put_self (by rw [hT, hnb])] at this
        · intro h; exact ⟨fun e => absurd e hb, fun _ => by rwa [put_self (by rw [hT, hnb])]⟩
    | tup vs => cases vs <;> exact Iff.rfl
    | _ => exact Iff.rfl

theorem gd_same {o : Op'} {st' : St} (h : ∀ t ∈ o.looks, st'.env t = st.env t) : gd o st' = gd o st := by
  unfold gd
  cases hg : o.guard with
  | none => rfl
  | some x =>
    obtain ⟨t, w⟩ := x
    simp only
    rw [h t (by simp [Op'.looks, hg])]

theorem kill_bool {p : Nat → Bool} {v : V} {b : Bool} (h : v.kill p = .bool b) : v = .bool b := by
  cases v <;> simp only [V.kill, V.kill1] at h <;> first | (cases h; done) | (split at h <;> first | (cases h; done) | exact h)
theorem kill_tup {p : Nat → Bool} {v : V} (h : v.kill p = .tup []) : v = .tup [] := by
  cases v with
  | tup vs => cases vs <;> first | rfl | simp [V.kill] at h
  | agg cs => simp [V.kill] at h
  | _ => simp only [V.kill, V.kill1] at h; split at h <;> cases h
theorem gd_kill {o : Op'} {st' : St} {p : Nat → Bool} (h : ∀ t ∈ o.looks, st'.env t = (st.env t).kill p) {b : Bool} (hb : gd o st' = some b) : gd o st = some b := by
  unfold gd at *
  cases hg : o.guard with
  | none => rw [hg] at hb; exact hb
  | some x =>
    obtain ⟨t, w⟩ := x
    rw [hg] at hb
    simp only at hb ⊢
    rw [h t (by simp [Op'.looks, hg])] at hb
    split at hb
    · rename_i h1; rw [kill_bool h1]; exact hb
    · rename_i h1; rw [kill_tup h1]; exact hb
    · cases hb

theorem kill_ptr {p : Nat → Bool} {v : V} {r off : Nat} (h : v.kill p = .ptr r off) : v = .ptr r off ∧ p r = false := by
  cases v <;> simp only [V.kill, V.kill1] at h <;> first | cases h | skip
  all_goals
    split at h <;> first | cases h | skip
  rename_i hn
  refine ⟨rfl, ?_⟩
  simpa [V.has] using hn

theorem eff_loadb {k : Nat} {z : X} {d : Option Nat} {K : St → Prop} : eff P (.loadb k z) d st K ↔ ∃ r off cs, z.ev st = .ptr r off ∧ st.heap r = .box cs ∧ off + k ≤ cs.length ∧ K (st.put d (pickc true k off cs)) := by
  constructor
  · intro h
    simp only [eff] at h
    split at h
    · split at h
      · rename_i h1 _ _ h2; exact ⟨_, _, _, h1, h2, h.1, h.2⟩
      · exact h.elim
    · exact h.elim
  · rintro ⟨r, off, cs, h1, h2, h3, h4⟩
    simp only [eff, h1, h2]
    exact ⟨h3, h4⟩

theorem eff_appN {s bytes : Nat} {x y : X} {d : Option Nat} {K : St → Prop} : eff P (.app s bytes x y none) d st K ↔ ∃ ys, srcRows st s (y.ev st) = some ys ∧
    ((∃ s0, x.ev st = .nils s0 ∧ ys.length * bytes ≤ 140737488355328 ∧ K (st.put d (.sl true s ys))) ∨
     (∃ r n rs, x.ev st = .sref r 0 n ∧ st.heap r = .rows s rs ∧ n = rs.length ∧ (n + ys.length) * bytes ≤ 140737488355328 ∧ K ((st.kills [r]).put d (.sl true s (rs ++ ys))))) := by
  constructor
  · intro h
    simp only [eff] at h
    split at h
    · exact h.elim
    · rename_i ys hy
      refine ⟨ys, hy, ?_⟩
      split at h
      · rename_i hx; exact .inl ⟨_, hx, h.1, h.2⟩
      · rename_i r i n hx
        split at h
        · rename_i s' rs hr
          obtain ⟨rfl, rfl, h3, h4, h5⟩ := h
          exact .inr ⟨r, n, rs, hx, hr, h3, h4, h5⟩
        · exact h.elim
      · exact h.elim
  · rintro ⟨ys, hy, ⟨s0, hx, h1, h2⟩ | ⟨r, n, rs, hx, hr, h1, h2, h3⟩⟩
    · simp only [eff, hy, hx]; exact ⟨h1, h2⟩
    · simp only [eff, hy, hx, hr]; exact ⟨by first | rfl | trivial, by first | rfl | trivial, h1, h2, h3⟩

theorem put_comm {st : St} {d e : Option Nat} {v w : V} (h : ∀ t, d = some t → e ≠ some t) : (st.put d v).put e w = (st.put e w).put d v := by
  refine St.ext' (fun i => ?_) (fun i => by rw [put_heap, put_heap, put_heap, put_heap])
  by_cases h1 : d = some i
  · have h2 := h i h1
    rw [put_env h2]
    subst h1
    simp [St.put, upd]
  · by_cases h2 : e = some i
    · subst h2
      rw [put_env h1]; simp [St.put, upd]
    · rw [put_env h2, put_env h1, put_env h1, put_env h2]

theorem kills_put {st : St} {d : Option Nat} {v : V} {r : Nat} : (st.put d v).kills [r] = (st.kills [r]).put d (v.kill (inl [r])) := by
  cases d with
  | none => rfl
  | some t =>
    refine St.ext' (fun i => ?_) (fun i => rfl)
    simp only [St.put, St.kills, St.killP, upd]
    split <;> rfl

theorem swap {A L : Op' × Nat} (h : swapOk A L = true) {l : List (Op' × Nat)} {K : St → Prop} (hk : wpOpsD P (A :: L :: l) st K) : wpOpsD P (L :: A :: l) st K := by
  unfold swapOk at h
  simp only [Bool.and_eq_true, beq_iff_eq] at h
  obtain ⟨⟨⟨hA, hA3⟩, hL⟩, hap⟩ := h
  obtain ⟨⟨dA, oA, gA⟩, cA⟩ := A
  obtain ⟨⟨dL, oL, gL⟩, cL⟩ := L
  simp only at hA hA3 hL
  cases oA <;> first | (cases hA; done) | skip
  rename_i s bytes x y mode
  cases mode <;> first | (cases hA; done) | skip
  cases oL <;> first | (cases hL; done) | skip
  rename_i n z
  subst hA3
  obtain ⟨a1, a2, a3, a4⟩ := apartO_spec hap
  simp only at a1 a2 a3
  obtain ⟨_, hk⟩ := hk
  refine ⟨fun _ => trivial, ?_⟩
  rw [effG_iff] at hk ⊢
  -- what L sees, A's slot apart
  have envL : ∀ (s0 : St) (v : V), ∀ t ∈ (⟨dL, .loadb n z, gL⟩ : Op').looks, (s0.put dA v).env t = s0.env t := fun s0 v t ht => put_env fun e => a1 t e ht
  have envA : ∀ (s0 : St) (v : V), ∀ t ∈ (⟨dA, .app s bytes x y none, gA⟩ : Op').looks, (s0.put dL v).env t = s0.env t := fun s0 v t ht => put_env fun e => a3 t e ht
  have comm : ∀ (s0 : St) (v w : V), (s0.put dA v).put dL w = (s0.put dL w).put dA v := fun s0 v w => put_comm a2
  -- A, behind L's slot
  have againA : ∀ (v : V) (K' : St → Prop), (gd ⟨dA, .app s bytes x y none, gA⟩ (st.put dL v)) = gd ⟨dA, .app s bytes x y none, gA⟩ st := fun v K' => gd_same (envA st v)
  unfold doG at hk
  cases hgA : gd ⟨dA, .app s bytes x y none, gA⟩ st with
  | none => rw [hgA] at hk; exact hk.elim
  | some bA =>
    rw [hgA] at hk
    cases bA with
    | false =>
      simp only at hk
      obtain ⟨_, hk⟩ := hk
      rw [effG_iff] at hk
      unfold doG at hk ⊢
      rw [gd_same (envL st _)] at hk
      cases hgL : gd ⟨dL, .loadb n z, gL⟩ st with
      | none => rw [hgL] at hk; exact hk.elim
      | some bL =>
        rw [hgL] at hk
        cases bL with
        | false =>
          simp only at hk ⊢
          refine ⟨fun e => (by cases e), ?_⟩
          rw [effG_iff]; unfold doG
          rw [againA _ K, hgA]
          simp only
          rw [← comm]; exact hk
        | true =>
          simp only at hk ⊢
          obtain ⟨r, off, cs, h1, h2, h3, h4⟩ := eff_loadb.1 hk
          rw [ev_same (o := ⟨dL, .loadb n z, gL⟩) (envL st _) z (by simp [O.xs])] at h1
          rw [put_heap] at h2
          refine eff_loadb.2 ⟨r, off, cs, h1, h2, h3, fun e => (by cases e), ?_⟩
          rw [effG_iff]; unfold doG
          rw [againA _ K, hgA]
          simp only
          rw [← comm]; exact h4
    | true =>
      simp only at hk
      obtain ⟨ys, hy, hcase⟩ := eff_appN.1 hk
      have evA : ∀ (v : V), x.ev (st.put dL v) = x.ev st ∧ y.ev (st.put dL v) = y.ev st := fun v =>
        ⟨ev_same (o := ⟨dA, .app s bytes x y none, gA⟩) (envA st v) x (by simp [O.xs]), ev_same (o := ⟨dA, .app s bytes x y none, gA⟩) (envA st v) y (by simp [O.xs])⟩
      have srcA : ∀ (v : V), srcRows (st.put dL v) s (y.ev (st.put dL v)) = some ys := fun v => by
        rw [(evA v).2, ← hy]
        unfold srcRows
        simp only [put_heap]
      rcases hcase with ⟨s0, hx, hb, hk⟩ | ⟨r, m, rs, hx, hr, hm, hb, hk⟩
      · obtain ⟨_, hk⟩ := hk
        rw [effG_iff] at hk
        unfold doG at hk ⊢
        rw [gd_same (envL st _)] at hk
        cases hgL : gd ⟨dL, .loadb n z, gL⟩ st with
        | none => rw [hgL] at hk; exact hk.elim
        | some bL =>
          rw [hgL] at hk
          cases bL with
          | false =>
            simp only at hk ⊢
            refine ⟨fun e => (by cases e), ?_⟩
            rw [effG_iff]; unfold doG
            rw [againA _ K, hgA]
            simp only
            refine eff_appN.2 ⟨ys, srcA _, .inl ⟨s0, (evA _).1.trans hx, hb, ?_⟩⟩
            rw [← comm]; exact hk
          | true =>
            simp only at hk ⊢
            obtain ⟨q, off, cs, h1, h2, h3, h4⟩ := eff_loadb.1 hk
            rw [ev_same (o := ⟨dL, .loadb n z, gL⟩) (envL st _) z (by simp [O.xs])] at h1
            rw [put_heap] at h2
            refine eff_loadb.2 ⟨q, off, cs, h1, h2, h3, fun e => (by cases e), ?_⟩
            rw [effG_iff]; unfold doG
            rw [againA _ K, hgA]
            simp only
            refine eff_appN.2 ⟨ys, srcA _, .inl ⟨s0, (evA _).1.trans hx, hb, ?_⟩⟩
            rw [← comm]; exact h4
      · obtain ⟨_, hk⟩ := hk
        rw [effG_iff] at hk
        have hkl : ∀ t ∈ (⟨dL, .loadb n z, gL⟩ : Op').looks, ((st.kills [r]).put dA (.sl true s (rs ++ ys))).env t = (st.env t).kill (inl [r]) := fun t ht => envL _ _ t ht
        unfold doG at hk ⊢
        cases hgL' : gd ⟨dL, .loadb n z, gL⟩ ((st.kills [r]).put dA (.sl true s (rs ++ ys))) with
        | none => rw [hgL'] at hk; exact hk.elim
        | some bL =>
          rw [hgL'] at hk
          rw [gd_kill hkl hgL']
          cases bL with
          | false =>
            simp only at hk ⊢
            refine ⟨fun e => (by cases e), ?_⟩
            rw [effG_iff]; unfold doG
            rw [againA _ K, hgA]
            simp only
            refine eff_appN.2 ⟨ys, srcA _, .inr ⟨r, m, rs, (evA _).1.trans hx, by rw [put_heap]; exact hr, hm, hb, ?_⟩⟩
            rw [kills_put, ← comm]; exact hk
          | true =>
            simp only at hk ⊢
            obtain ⟨q, off, cs, h1, h2, h3, h4⟩ := eff_loadb.1 hk
            have hz : z.ev st = .ptr q off ∧ (q == r) = false := by
              cases z with
              | k v =>
                simp only [X.ev] at h1 ⊢
                refine ⟨h1, ?_⟩
                rw [put_heap] at h2
                cases hqr : (q == r) with
                | false => rfl
                | true =>
                  simp only [St.kills, St.killP, inl, hqr, Bool.true_or, if_true] at h2
                  cases h2
              | t t0 =>
                simp only [X.ev] at h1 ⊢
                rw [hkl t0 (by simp [Op'.looks, O.xs, X.tmps])] at h1
                obtain ⟨e1, e2⟩ := kill_ptr h1
                exact ⟨e1, by simpa [inl] using e2⟩
            rw [put_heap] at h2
            simp only [St.kills, St.killP, inl, hz.2, Bool.or_false, Bool.false_eq_true, if_false] at h2
            cases hq : st.heap q with
            | box cs0 =>
              rw [hq] at h2
              simp only [AO.kill, AO.box.injEq] at h2
              subst h2
              refine eff_loadb.2 ⟨q, off, cs0, hz.1, hq, by simpa using h3, fun e => (by cases e), ?_⟩
              rw [effG_iff]; unfold doG
              rw [againA _ K, hgA]
              simp only
              refine eff_appN.2 ⟨ys, srcA _, .inr ⟨r, m, rs, (evA _).1.trans hx, by rw [put_heap]; exact hr, hm, hb, ?_⟩⟩
              rw [kills_put, ← comm]
              have e0 : (fun i => i == r) = inl [r] := by funext i; simp [inl]
              rw [e0] at h4
              have e : pickc true n off (cs0.map (V.kill1 (inl [r]))) = (pickc true n off cs0).kill (inl [r]) := by
                simp only [pickc, if_true, V.kill, List.map_drop, List.map_take]
              rw [← e]; exact h4
            | _ => rw [hq] at h2; simp [AO.kill] at h2
end Go.Ab
