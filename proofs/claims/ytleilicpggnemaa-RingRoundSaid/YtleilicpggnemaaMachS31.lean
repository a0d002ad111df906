/-
  Regions in any order: an operation may be done ahead of others.
-/
import Derived.Test.YtleilicpggnemaaMachS30
namespace Go.Ab
open Go

variable {E : Ent} {n : Sz} {C : Ctx} {st : St} {a : Act} {P : Program}

/-- What operations of classes 0 to 2 did, one behind the other. -/
inductive Script (P : Program) : List (Op' × Nat) → St → St → Prop where
  | nil {st : St} : Script P [] st st
  | cons {x : Op' × Nat} {l : List (Op' × Nat)} {st st' : St} {v : V} {news : List (Nat × AO)} (hd : Does P x.2 x.1 st v news) (hq : x.2 = 1 → quiet x.1 st) (t : Script P l ((st.sets news).put x.1.dst v) st') : Script P (x :: l) st st'

theorem pre_run : ∀ (pre : List (Op' × Nat)) {tail : List (Op' × Nat)} {st : St} {K : St → Prop}, (∀ x ∈ pre, (x.2 = 0 ∨ x.2 = 1 ∨ x.2 = 2) ∧ okClass x.1.op x.2 = true) → wpOpsD P (pre ++ tail) st K →
    ∃ st', wpOpsD P tail st' K ∧ Script P pre st st'
  | [], _, st, _, _, h => ⟨st, h, .nil⟩
  | x :: l, tail, st, K, hp, h => by
    obtain ⟨h1, h2⟩ := hp x (by simp)
    simp only [List.cons_append, wpOpsD] at h
    obtain ⟨v, news, h3, h4⟩ := effG_does h1 h2 h.1 h.2
    obtain ⟨st', h5, h6⟩ := pre_run l (fun y hy => hp y (by simp [hy])) h3
    exact ⟨st', h5, .cons h4 h.1 h6⟩

theorem Script.env {l : List (Op' × Nat)} {st st' : St} (h : Script P l st st') {t : Nat} (ht : ∀ x ∈ l, x.1.dst ≠ some t) : st'.env t = st.env t := by
  induction h with
  | nil => rfl
  | cons _ _ _ ih =>
    rw [ih fun y hy => ht y (by simp [hy]), put_env (ht _ (by simp)), sets_env]

theorem Script.heap {l : List (Op' × Nat)} {st st' : St} (h : Script P l st st') (hc : ∀ x ∈ l, x.2 = 0 ∨ x.2 = 1) {r : Nat} (hr : (st.heap r).isDead = false) : st'.heap r = st.heap r := by
  induction h with
  | nil => rfl
  | cons hd hq t ih =>
    rename_i x l st st' v news
    have e : ((st.sets news).put x.1.dst v).heap r = st.heap r := by
      rw [put_heap]
      refine sets_heap_not _ _ _ fun y hy e => ?_
      rcases hc x (by simp) with h0 | h1
      · rw [hd.pure h0] at hy; simp at hy
      · have := (hd.quiet h1).2 y.1 (List.mem_map_of_mem hy)
        rw [e, hr] at this; cases this
    rw [ih (fun y hy => hc y (by simp [hy])) (by rw [e]; exact hr), e]

theorem Script.heap0 {l : List (Op' × Nat)} {st st' : St} (h : Script P l st st') (hc : ∀ x ∈ l, x.2 = 0) : st'.heap = st.heap := by
  induction h with
  | nil => rfl
  | cons hd _ _ ih =>
    rw [ih fun y hy => hc y (by simp [hy]), put_heap, hd.pure (hc _ (by simp))]
    rfl

theorem quiet_same {o : Op'} {st st' : St} (h : ∀ t ∈ o.looks, st'.env t = st.env t) (hq : quiet o st) : quiet o st' := by
  have he := ev_same h
  obtain ⟨d, q, g⟩ := o
  cases q with
  | app s b x y m =>
    obtain ⟨s', hs⟩ := hq
    exact ⟨s', (he x (by simp [O.xs])).trans hs⟩
  | _ => exact hq

theorem apartO_spec {x y : Op'} (h : apartO x y = true) : (∀ d, x.dst = some d → d ∉ y.looks) ∧ (∀ d, x.dst = some d → y.dst ≠ some d) ∧ (∀ d, y.dst = some d → d ∉ x.looks) ∧ ∀ r ∈ x.op.names, r ∉ y.op.names := by
  unfold apartO at h
  simp only [Bool.and_eq_true, List.all_eq_true, Bool.not_eq_true'] at h
  obtain ⟨⟨h1, h2⟩, h3⟩ := h
  refine ⟨fun d hd hm => ?_, fun d hd => ?_, fun d hd hm => ?_, fun r hr hm => ?_⟩
  · rw [hd] at h1; simp only [Bool.and_eq_true, Bool.not_eq_true'] at h1; rw [inl_iff.2 hm] at h1; simp at h1
  · rw [hd] at h1; simp only [Bool.and_eq_true, bne_iff_ne] at h1; exact h1.2
  · rw [hd] at h2; simp only [Bool.not_eq_true'] at h2; rw [inl_iff.2 hm] at h2; cases h2
  · have := h3 r hr; rw [inl_iff.2 hm] at this; cases this

theorem okPair_spec {x c : Nat} (h : okPair x c = true) : (x = 0 ∧ c = 0) ∨ (x = 0 ∧ c = 1) ∨ (x = 1 ∧ c = 0) ∨ (x = 1 ∧ c = 1) ∨ (x = 0 ∧ c = 2) ∨ (x = 2 ∧ c = 0) := by
  unfold okPair at h
  split at h <;> simp_all

/-- The same, behind another operation's effect. -/
theorem Script.replay {c : Nat} {o : Op'} {si : List (Nat × AO)} {vi : V} (h0 : c = 0 → si = []) (h1 : c = 1 → ∀ y ∈ si, y.1 ∈ o.op.names) {l : List (Op' × Nat)} {st st' : St} (h : Script P l st st')
    (hp : ∀ x ∈ l, okPair x.2 c = true ∧ apartO x.1 o = true) (hdead : c = 1 → ∀ y ∈ si, (st'.heap y.1).isDead = true) {tail : List (Op' × Nat)} {K : St → Prop} (hk : wpOpsD P tail ((st'.sets si).put o.dst vi) K) :
    wpOpsD P (l ++ tail) ((st.sets si).put o.dst vi) K := by
  induction h with
  | nil => exact hk
  | cons hd hq t ih =>
    rename_i x l s s' v news
    have ih := ih (fun y hy => hp y (by simp [hy])) hdead hk
    obtain ⟨hpx, hax⟩ := hp x (by simp)
    obtain ⟨a1, a2, a3, a4⟩ := apartO_spec hax
    have hcls := okPair_spec hpx
    have hlooks : ∀ t ∈ x.1.looks, ((s.sets si).put o.dst vi).env t = s.env t := fun t ht => by
      rw [put_env (fun e => a3 t e ht), sets_env]
    -- what is dead behind all is dead ahead
    have hdead' : c = 1 → ∀ y ∈ si, (s.heap y.1).isDead = true := fun hc y hy => by
      have hall : ∀ z ∈ x :: l, z.2 = 0 ∨ z.2 = 1 := fun z hz => by
        have := okPair_spec (hp z hz).1
        omega
      by_cases hl : (s.heap y.1).isDead = true
      · exact hl
      · have hl' : (s.heap y.1).isDead = false := by simpa using hl
        have e := (Script.cons (x := x) hd hq t).heap hall hl'
        have := hdead hc y hy
        rw [e] at this; exact this
    have hheap : c ≠ 2 → ∀ r, (s.heap r).isDead = false → ((s.sets si).put o.dst vi).heap r = s.heap r := fun hc r hr => by
      rw [put_heap]
      refine sets_heap_not _ _ _ fun y hy e => ?_
      have : c = 0 ∨ c = 1 := by omega
      rcases this with h | h
      · rw [h0 h] at hy; simp at hy
      · have := hdead' h y hy
        rw [e, hr] at this; cases this
    simp only [List.cons_append, wpOpsD]
    refine ⟨fun hx => quiet_same hlooks (hq hx), ?_⟩
    refine hd.again _ ⟨hlooks, fun hx z hz r hr hl => hheap (by omega) r hl, fun hx => ?_⟩ (fun _ _ _ _ => trivial) (fun hx r hr hdr => ?_) _ ?_
    · have : c = 0 := by omega
      rw [put_heap, h0 this]; rfl
    · rw [put_heap]
      have : c = 0 ∨ c = 1 := by omega
      rcases this with h | h
      · rw [h0 h]; exact hdr
      · rw [sets_heap_not _ si r fun y hy e => a4 r hr (by rw [← e]; exact h1 h y hy)]; exact hdr
    · rw [effects_comm s (l := si) (m := news) (d := o.dst) (e := x.1.dst) (fun y hy z hz e => ?_) (fun t ht e => a2 t e ht)]
      · exact ih
      · have : (c = 0 ∨ x.2 = 0) ∨ (c = 1 ∧ x.2 = 1) := by omega
        rcases this with (h | h) | ⟨hc, hx⟩
        · rw [h0 h] at hy; simp at hy
        · rw [hd.pure h] at hz; simp at hz
        · exact a4 z.1 ((hd.quiet hx).1 z hz).1 (by rw [← e]; exact h1 hc y hy)

end Go.Ab
