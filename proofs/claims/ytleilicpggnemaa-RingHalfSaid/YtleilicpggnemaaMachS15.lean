/-
  Calls: the arguments.
-/
import Derived.Test.YtleilicpggnemaaMachS14
namespace Go.Ab
open Go

variable {E : Ent} {n : Sz} {C : Ctx} {st : St} {a : Act} {P : Program}

/-- The block of an object. -/
def blkOf (C : Ctx) (r : Nat) : Option Nat := (C.loc r).map (·.blk)

theorem blkOf_some {r : Nat} {L : Loc} (h : C.loc r = some L) : blkOf C r = some L.blk := by simp [blkOf, h]

theorem okGiven_other {c : V} (h : V.okGiven c = true) (hne : ∀ s rows, c ≠ .own s rows) : c.closed = true ∧ (∀ vs, c ≠ .tup vs) ∧ (∀ vs, c ≠ .agg vs) := by
  unfold V.okGiven at h
  split at h
  · exact absurd rfl (hne _ _)
  · simp only [Bool.and_eq_true] at h
    refine ⟨h.1, fun vs e => ?_, fun vs e => ?_⟩ <;> subst e <;> simp at h

theorem giveC_other {c : V} (h : ∀ r k, c ≠ .sref r 0 k) (h' : ∀ s, c ≠ .nils s) : giveC st c = c := by
  unfold giveC; split
  · exact absurd rfl (h _ _)
  · exact absurd rfl (h' _)
  · rfl

/-- What may be given away. -/
def okGood (good : V → Bool) : V → Bool
  | .own _ rows => rows.all (·.all good)
  | v => v.closed && good v && (match v with | .tup _ => false | .agg _ => false | _ => true)

theorem okGood_other {good : V → Bool} {c : V} (h : okGood good c = true) (hne : ∀ s rows, c ≠ .own s rows) : c.closed = true ∧ good c = true ∧ (∀ vs, c ≠ .tup vs) ∧ (∀ vs, c ≠ .agg vs) := by
  unfold okGood at h
  split at h
  · exact absurd rfl (hne _ _)
  · simp only [Bool.and_eq_true] at h
    refine ⟨h.1.1, h.1.2, fun vs e => ?_, fun vs e => ?_⟩ <;> subst e <;> simp at h

structure Given (C B : Ctx) (v : V) (u : Value) (os : List Nat) : Prop where
  r : RB1 B v u
  owns : (owns1 v u).Sublist (os.filterMap (blkOf C))

theorem give_good (h : Inv E n C st a) {B : Ctx} {good : V → Bool} (hw : B.w = C.w) (hcl : ∀ c u, R C c u → c.closed = true → good c = true → R B c u) {c : V} {u : Value} (hR : R C c u) (hok : okGood good (giveC st c) = true) :
    Given C B (giveC st c) u (objC c) := by
  by_cases h1 : ∃ r k, c = .sref r 0 k
  · obtain ⟨r, k, rfl⟩ := h1
    simp only [giveC] at hok ⊢
    cases hh : st.heap r with
    | dead => simp [hh, okGood, V.closed] at hok
    | box cs => simp [hh, okGood, V.closed] at hok
    | rows s rs =>
      simp only [hh] at hok ⊢
      by_cases hk : k = rs.length
      · simp only [hk, if_true] at hok ⊢
        subst hk
        simp only [okGood, List.all_eq_true] at hok
        have hgood : ∀ i j c, at2 rs i j = some c → good c = true := fun i j c hij => by
          obtain ⟨hi, hj⟩ := at2_lt hij
          exact hok _ (List.getElem_mem hi) _ (List.mem_of_getElem? hj)
        have ho := h.objs r
        have hC : C.heap r = .rows s rs := by rw [h.heap]; exact hh
        unfold ObjOk at ho
        rw [hC] at ho
        have fst : ∀ u, ((rs = []) ∧ (u = Value.slice none 0 0 ∨ ∃ b off, u = .slice (some ⟨b, off, none⟩) 0 0)) → Given C B (.own s rs) u (objC (.sref r 0 rs.length)) := by
          rintro u ⟨rfl, hu⟩
          refine ⟨by rw [RB1_own, OwnR_iff]; exact .inl ⟨rfl, hu⟩, ?_⟩
          rcases hu with rfl | ⟨b, off, rfl⟩ <;> simp [owns1]
        have nil_of : rs.length = 0 → rs = [] := List.eq_nil_of_length_eq_zero
        generalize hke : rs.length = k0 at hR
        cases hR with
        | sref _ _ _ s' rs' L q1 q2 q3 =>
          rw [hC] at q1; cases q1
          rcases ho with ⟨_, ho⟩ | ⟨L', hl', g0, g1, g2, g3, ⟨cur, e, g, g4, g5, g6⟩, g7, g8⟩
          · rw [q2] at ho; cases ho
          rw [q2] at hl'; cases hl'
          by_cases hcap : L.cap = 0
          · refine fst _ ⟨nil_of (by omega), .inr ⟨L.blk, 0, ?_⟩⟩
            have : rs.length = 0 := by omega
            simp [← hke, this, hcap]
          · refine ⟨?_, ?_⟩
            · rw [RB1_own, OwnR_iff]
              refine .inr ⟨L.blk, L.cap, by simp [hke], Nat.pos_of_ne_zero hcap, g1, g2, g3, cur, e, g, by rw [hw]; exact g4, g5, fun i j c hij => ?_⟩
              obtain ⟨a1, a2, a3, a4⟩ := g6 i j c hij
              exact ⟨a1, a2, a3, hcl _ _ a4 a3 (hgood i j c hij)⟩
            · simp [owns1, objC, blkOf_some q2, hcap]
        | srefNil _ s' q1 q2 =>
          exact fst _ ⟨nil_of hke, .inl rfl⟩
        | srefZ _ _ s' rs' b off q1 q2 =>
          exact fst _ ⟨nil_of hke, .inr ⟨b, off, rfl⟩⟩
      · simp only [hk, if_false] at hok
        simp [okGood, V.closed] at hok
  · by_cases h2 : ∃ s, c = .nils s
    · obtain ⟨s, rfl⟩ := h2
      simp only [giveC]
      cases hR with
      | nils => exact ⟨by rw [RB1_own, OwnR_iff]; exact .inl ⟨rfl, .inl rfl⟩, by simp [owns1]⟩
      | nilsSome _ b off => exact ⟨by rw [RB1_own, OwnR_iff]; exact .inl ⟨rfl, .inr ⟨b, off, rfl⟩⟩, by simp [owns1]⟩
    · have e := giveC_other (st := st) (c := c) (fun r k e => h1 ⟨r, k, e⟩) (fun s e => h2 ⟨s, e⟩)
      rw [e] at hok ⊢
      have hne : ∀ s rows, c ≠ .own s rows := fun s rows e => by subst e; cases hR
      obtain ⟨k1, k2, _, _⟩ := okGood_other hok hne
      refine ⟨by rw [RB1_other hne]; exact hcl _ _ hR k1 k2, ?_⟩
      have : owns1 c u = [] := by unfold owns1; split <;> first | exact absurd rfl (hne _ _) | rfl
      rw [this]; exact List.nil_sublist _

theorem okGiven_sh {v : V} (h : V.okGiven v.sh = true) : okGood (fun _ => true) v = true := by
  by_cases hv : ∃ s rows, v = .own s rows
  · obtain ⟨s, rows, rfl⟩ := hv
    simp [okGood]
  · have hne : ∀ s rows, v.sh ≠ .own s rows := fun s rows e => by
      cases v <;> simp only [V.sh] at e <;> first | exact hv ⟨_, _, rfl⟩ | cases e
    obtain ⟨h1, h2, h3⟩ := okGiven_other h hne
    have h1' := closed_of_sh _ h1
    cases v <;> simp_all [okGood, V.sh, V.closed]

theorem give_sound (h : Inv E n C st a) {Φ : Nat → Nat → Prop} (hΦ : ∀ b off, C.F b off → Φ b off) {c : V} {u : Value} (hR : R C c u) (hok : V.okGiven (giveC st c).sh = true) :
    Given C (bare C.w Φ C.G) (giveC st c).sh u (objC c) := by
  obtain ⟨h1, h2⟩ := give_good h (B := bare C.w Φ C.G) (good := fun _ => true) rfl (fun c u hr hc _ => R.of_closed (C := C) (C' := bare C.w Φ C.G) (fun _ _ hf => ⟨hΦ _ _ hf, rfl⟩) (fun _ h => h) hr hc) hR (okGiven_sh hok)
  exact ⟨RB1_shG h1 C.G, by rw [owns1_sh]; exact h2⟩

theorem give_live {good : V → Bool} {c : V} (hok : okGood good (giveC st c) = true) : ∀ r ∈ objC c, ∃ s rs, st.heap r = .rows s rs := by
  intro r hr
  cases c with
  | sref r' i k =>
    simp only [objC, List.mem_singleton] at hr
    subst hr
    cases i with
    | zero =>
      simp only [giveC] at hok
      cases hh : st.heap r with
      | rows s rs => exact ⟨s, rs, rfl⟩
      | _ => simp [hh, okGood, V.closed] at hok
    | succ i => simp [giveC, okGood, V.closed] at hok
  | _ => simp [objC] at hr

theorem ownsL_give : ∀ (l : List V) (us : List Value) (f : V → V), l.length = us.length → (∀ (j : Nat) (c : V), l[j]? = some c → (owns1 (f c) (us.getD j undef)).Sublist ((objC c).filterMap (blkOf C))) →
    (ownsL (l.map f) us).Sublist ((l.flatMap objC).filterMap (blkOf C))
  | [], [], _, _, _ => by simp [ownsL]
  | [], _ :: _, _, hl, _ => by simp at hl
  | _ :: _, [], _, hl, _ => by simp at hl
  | c :: l, u :: us, f, hl, hr => by
    simp only [List.map_cons, ownsL, List.flatMap_cons, List.filterMap_append]
    refine List.Sublist.append (by simpa using hr 0 c rfl) (ownsL_give l us f (by simpa using hl) fun j c hj => by simpa using hr (j + 1) c (by simpa using hj))

theorem cellsAt_len (w : World) (b base k : Nat) : (cellsAt w b base k).length = k := by simp [cellsAt]
theorem cellsAt_get (w : World) (b base k j : Nat) (hj : j < k) : (cellsAt w b base k).getD j undef = (w.cell? ⟨b, base + j, none⟩).getD undef := by
  simp [cellsAt, List.getD, List.getElem?_map, List.getElem?_range hj]

/-- An argument, handed over. -/
structure Handed (C : Ctx) (st : St) (Φ : Nat → Nat → Prop) (p : Pm) (v : V) (u : Value) : Prop where
  r : RA (bare C.w Φ C.G) v u
  owns : (ownsA C.w v u).Sublist ((p.gone st).filterMap (blkOf C))
  box : (boxA v u).Sublist ((p.box st).filterMap (blkOf C))
  cells : ∀ b off, boxC v u b off → ∃ x k r o L cs, p = .io x k ∧ x.ev st = .ptr r o ∧ st.heap r = .box cs ∧ o + k ≤ cs.length ∧ C.loc r = some L ∧ b = L.blk ∧ L.base + o ≤ off ∧ off < L.base + o + k
  live : ∀ r ∈ p.gone st, ∃ s rs, st.heap r = .rows s rs
  boxes : ∀ r ∈ p.box st, ∃ cs, st.heap r = .box cs
  io : ∀ x k, p = .io x k → ∃ r o L cs, x.ev st = .ptr r o ∧ st.heap r = .box cs ∧ o + k ≤ cs.length ∧ C.loc r = some L ∧ u = .pointer (some ⟨L.blk, L.base + o, none⟩) ∧ ∃ cv, v = .io cv

theorem RA_other {v : V} {u : Value} (h : ∀ cs, v ≠ .io cs) : RA C v u = RB1 C v u := by
  unfold RA; split <;> first | exact absurd rfl (h _) | rfl
theorem ownsA_other {w : World} {v : V} {u : Value} (h : ∀ cs, v ≠ .io cs) : ownsA w v u = owns1 v u := by
  unfold ownsA; split <;> first | exact absurd rfl (h _) | rfl
theorem boxA_other {v : V} {u : Value} (h : ∀ cs, v ≠ .io cs) : boxA v u = [] := by
  unfold boxA; split <;> first | exact absurd rfl (h _) | rfl
theorem boxC_other {v : V} {u : Value} {b off : Nat} (h : ∀ cs, v ≠ .io cs) : ¬ boxC v u b off := by
  unfold boxC; split <;> first | exact absurd rfl (h _) | exact fun h => h
theorem owns1_other {v : V} {u : Value} (h : ∀ s rows, v ≠ .own s rows) : owns1 v u = [] := by
  unfold owns1; split <;> first | exact absurd rfl (h _ _) | rfl

theorem Inv.hand (h : Inv E n C st a) {Φ : Nat → Nat → Prop} (hΦ : ∀ b off, C.F b off → Φ b off) {sr : St} {p : Pm} {u : Value} (hp : R C (p.x.ev st) u) (hok : p.ok sr st = true)
    (hro : ∀ x, p = .ro x → ((frz sr 4 (x.ev sr)).sh).closed = true → R (bare C.w Φ C.G) ((frz sr 4 (x.ev sr)).sh) u) : Handed C st Φ p (p.val sr st) u := by
  cases p with
  | ro x =>
    simp only [Pm.ok, Pm.val] at hok
    have hR := hro x rfl hok
    have n1 : ∀ cs, (Pm.ro x).val sr st ≠ .io cs := fun cs e => by simp only [Pm.val] at e; rw [e] at hok; simp [V.closed] at hok
    have n2 : ∀ s rows, (Pm.ro x).val sr st ≠ .own s rows := fun s rows e => by simp only [Pm.val] at e; rw [e] at hok; simp [V.closed] at hok
    exact ⟨by rw [RA_other n1, RB1_other n2]; exact hR, by rw [ownsA_other n1, owns1_other n2]; simp, by rw [boxA_other n1]; simp, fun b off hb => absurd hb (boxC_other n1), fun r hr => by simp [Pm.gone] at hr, fun r hr => by simp [Pm.box] at hr, fun x k e => by cases e⟩
  | mv x s =>
    have hR : R C (x.ev st) u := hp
    have hown : ∃ s rows, (giveC st (x.ev st)).sh = .own s rows := by
      simp only [Pm.ok, Pm.val] at hok
      split at hok <;> first | exact ⟨_, _, by assumption⟩ | simp_all
    obtain ⟨s', rows, ho⟩ := hown
    have hg := give_sound h hΦ hR (by rw [ho]; rfl)
    have n1 : ∀ cs, (Pm.mv x s).val sr st ≠ .io cs := fun cs e => by simp only [Pm.val] at e; rw [ho] at e; cases e
    exact ⟨by rw [RA_other n1]; exact hg.r, by rw [ownsA_other n1]; exact hg.owns, by rw [boxA_other n1]; simp, fun b off hb => absurd hb (boxC_other n1), give_live (okGiven_sh (by rw [ho]; rfl)), fun r hr => by simp [Pm.box] at hr, fun x k e => by cases e⟩
  | io x k =>
    have hR : R C (x.ev st) u := hp
    simp only [Pm.ok] at hok
    simp only [Pm.val] at hok ⊢
    cases hx : x.ev st with
    | ptr r o =>
      simp only [hx] at hok ⊢
      cases hh : st.heap r with
      | box cs =>
        simp only [hh] at hok ⊢
        by_cases hlen : o + k ≤ cs.length
        · simp only [hlen, if_true] at hok ⊢
          rw [hx] at hR
          have hC : C.heap r = .box cs := by rw [h.heap]; exact hh
          cases hR with
          | ptr _ _ cs' L q1 q2 =>
            rw [hC] at q1; cases q1
            have ho := h.objs r
            unfold ObjOk at ho
            rw [hC] at ho
            obtain ⟨L', hl', ⟨cur, e, g, g2, g3⟩, _⟩ := ho
            rw [q2] at hl'; cases hl'
            have hgive : ∀ (j : Nat) (c : V), ((cs.drop o).take k)[j]? = some c → j < k ∧ cur[L.base + o + j]? = some (g (o + j)) ∧ (g (o + j)).oneCell' = true ∧ R C c (g (o + j)) ∧ V.okGiven (giveC st c).sh = true := fun j c hj => by
              obtain ⟨h1, h2⟩ := getElem?_seg hj
              obtain ⟨a1, a2, a3⟩ := g3 _ c h1
              refine ⟨h2, by rw [Nat.add_assoc]; exact a1, a2, a3, ?_⟩
              exact List.all_eq_true.1 hok _ (List.mem_map_of_mem (List.mem_of_getElem? hj))
            have hl : ((cs.drop o).take k).length = k := by simp; omega
            refine ⟨?_, ?_, ?_, ?_, ?_, ?_, ?_⟩
            · refine ⟨L.blk, L.base + o, cur, e, fun j => g (o + j), rfl, g2, fun j c hj => ?_⟩
              simp only [List.getElem?_map, Option.map_eq_some_iff] at hj
              obtain ⟨c', h1, rfl⟩ := hj
              obtain ⟨_, b1, b2, b3, b4⟩ := hgive j c' h1
              exact ⟨b1, b2, (give_sound h hΦ b3 b4).r⟩
            · have eg : Pm.gone st (.io x k) = ((cs.drop o).take k).flatMap objC := by simp [Pm.gone, hx, hh]
              rw [eg]
              show (ownsL (((cs.drop o).take k).map fun c => (giveC st c).sh) (cellsAt C.w L.blk (L.base + o) (((cs.drop o).take k).map fun c => (giveC st c).sh).length)).Sublist _
              refine ownsL_give _ _ (fun c => (giveC st c).sh) (by rw [List.length_map, cellsAt_len]) fun j c hj => ?_
              obtain ⟨b0, b1, b2, b3, b4⟩ := hgive j c hj
              rw [List.length_map, hl, cellsAt_get _ _ _ _ _ b0, cell_of_row _ _ _ _ _ _ g2, b1]
              exact (give_sound h (Φ := C.F) (fun _ _ h => h) b3 b4).owns
            · have eb : Pm.box st (.io x k) = [r] := by simp [Pm.box, hx]
              rw [eb]
              simp [boxA, blkOf_some q2]
            · intro b off hb
              simp only [boxC, List.length_map, hl] at hb
              exact ⟨x, k, r, o, L, cs, rfl, hx, hh, hlen, q2, hb.1, hb.2.1, hb.2.2⟩
            · intro r' hr'
              have eg : Pm.gone st (.io x k) = ((cs.drop o).take k).flatMap objC := by simp [Pm.gone, hx, hh]
              rw [eg, List.mem_flatMap] at hr'
              obtain ⟨c, hc, hr'⟩ := hr'
              obtain ⟨j, hj⟩ := List.getElem?_of_mem hc
              exact give_live (okGiven_sh (hgive j c hj).2.2.2.2) r' hr'
            · intro r' hr'
              have eb : Pm.box st (.io x k) = [r] := by simp [Pm.box, hx]
              rw [eb, List.mem_singleton] at hr'
              subst hr'
              exact ⟨cs, hh⟩
            · intro x' k' e'
              cases e'
              exact ⟨r, o, L, cs, hx, hh, hlen, q2, rfl, _, rfl⟩
        · simp [hlen] at hok
      | _ => simp [hh] at hok
    | _ => simp [hx] at hok

/-- All arguments, handed over. -/
inductive HandedL (C : Ctx) (st : St) (Φ : Nat → Nat → Prop) : List Pm → List V → List Value → Prop where
  | nil : HandedL C st Φ [] [] []
  | cons {p v u ps vs us} (h : Handed C st Φ p v u) (t : HandedL C st Φ ps vs us) : HandedL C st Φ (p :: ps) (v :: vs) (u :: us)

theorem Inv.handL (h : Inv E n C st a) {Φ : Nat → Nat → Prop} (hΦ : ∀ b off, C.F b off → Φ b off) {sr : St} : ∀ {args : List Pm} {us : List Value}, args.length = us.length → (∀ (i : Nat) (p : Pm), args[i]? = some p → R C (p.x.ev st) (us.getD i undef)) → args.all (·.ok sr st) = true →
    (∀ (i : Nat) x, args[i]? = some (.ro x) → ((frz sr 4 (x.ev sr)).sh).closed = true → R (bare C.w Φ C.G) ((frz sr 4 (x.ev sr)).sh) (us.getD i undef)) → HandedL C st Φ args (args.map (·.val sr st)) us
  | [], [], _, _, _, _ => .nil
  | [], _ :: _, h1, _, _, _ => by simp at h1
  | _ :: _, [], h1, _, _, _ => by simp at h1
  | p :: ps, u :: us, h1, h1', h2, h3 => by
    simp only [List.all_cons, Bool.and_eq_true] at h2
    exact .cons (h.hand hΦ (by simpa using h1' 0 p rfl) h2.1 fun x e hc => by simpa using h3 0 x (by simp [e]) hc)
      (h.handL hΦ (by simpa using h1) (fun i p hp => by simpa using h1' (i + 1) p (by simpa using hp)) h2.2 fun i x hm hc => by simpa using h3 (i + 1) x (by simpa using hm) hc)

theorem HandedL.len {Φ : Nat → Nat → Prop} {ps : List Pm} {vs : List V} {us : List Value} (h : HandedL C st Φ ps vs us) : vs.length = us.length ∧ ps.length = vs.length := by
  induction h with
  | nil => exact ⟨rfl, rfl⟩
  | cons _ _ ih => simp [ih.1, ih.2]

theorem HandedL.get {Φ : Nat → Nat → Prop} {ps : List Pm} {vs : List V} {us : List Value} (h : HandedL C st Φ ps vs us) : ∀ (i : Nat) (v : V), vs[i]? = some v → RA (bare C.w Φ C.G) v (us.getD i undef) := by
  induction h with
  | nil => intro i v hi; simp at hi
  | cons h _ ih =>
    intro i v hi
    cases i with
    | zero => simp at hi; subst hi; simpa using h.r
    | succ i => simpa using ih i v (by simpa using hi)

theorem HandedL.live {Φ : Nat → Nat → Prop} {ps : List Pm} {vs : List V} {us : List Value} (h : HandedL C st Φ ps vs us) : (∀ r ∈ ps.flatMap (·.gone st), ∃ s rs, st.heap r = .rows s rs) ∧ (∀ r ∈ ps.flatMap (·.box st), ∃ cs, st.heap r = .box cs) := by
  induction h with
  | nil => simp
  | cons h _ ih =>
    simp only [List.flatMap_cons, List.mem_append]
    exact ⟨fun r hr => hr.elim (h.live r) (ih.1 r), fun r hr => hr.elim (h.boxes r) (ih.2 r)⟩

theorem HandedL.io {Φ : Nat → Nat → Prop} {ps : List Pm} {vs : List V} {us : List Value} (h : HandedL C st Φ ps vs us) : ∀ (i : Nat) (x : X) (k : Nat), ps[i]? = some (.io x k) →
    ∃ r o L cs, x.ev st = .ptr r o ∧ st.heap r = .box cs ∧ o + k ≤ cs.length ∧ C.loc r = some L ∧ us.getD i undef = .pointer (some ⟨L.blk, L.base + o, none⟩) ∧ ∃ cv, vs[i]? = some (.io cv) := by
  induction h with
  | nil => intro i x k hi; simp at hi
  | cons h _ ih =>
    intro i x k hi
    cases i with
    | zero =>
      simp only [List.getElem?_cons_zero, Option.some.injEq] at hi
      obtain ⟨r, o, L, cs, h1, h2, h3, h4, h5, cv, h6⟩ := h.io x k hi
      exact ⟨r, o, L, cs, h1, h2, h3, h4, by simpa using h5, cv, by simp [h6]⟩
    | succ i => simpa using ih i x k (by simpa using hi)

theorem HandedL.owns {Φ : Nat → Nat → Prop} {ps : List Pm} {vs : List V} {us : List Value} (h : HandedL C st Φ ps vs us) : (listA (ownsA C.w) vs us).Sublist ((ps.flatMap (·.gone st)).filterMap (blkOf C)) := by
  induction h with
  | nil => simp [listA]
  | cons h _ ih => simp only [listA, List.flatMap_cons, List.filterMap_append]; exact h.owns.append ih

theorem HandedL.box {Φ : Nat → Nat → Prop} {ps : List Pm} {vs : List V} {us : List Value} (h : HandedL C st Φ ps vs us) : (listA boxA vs us).Sublist ((ps.flatMap (·.box st)).filterMap (blkOf C)) := by
  induction h with
  | nil => simp [listA]
  | cons h _ ih => simp only [listA, List.flatMap_cons, List.filterMap_append]; exact h.box.append ih

theorem HandedL.cells {Φ : Nat → Nat → Prop} {ps : List Pm} {vs : List V} {us : List Value} (h : HandedL C st Φ ps vs us) {b off : Nat} : anyC vs us b off → ∃ x k r o L cs, .io x k ∈ ps ∧ x.ev st = .ptr r o ∧ st.heap r = .box cs ∧ o + k ≤ cs.length ∧ C.loc r = some L ∧ b = L.blk ∧ L.base + o ≤ off ∧ off < L.base + o + k := by
  induction h with
  | nil => intro h; exact absurd h (by simp [anyC])
  | cons h _ ih =>
    intro hc
    simp only [anyC] at hc
    rcases hc with hc | hc
    · obtain ⟨x, k, r, o, L, cs, rfl, h2⟩ := h.cells b off hc
      exact ⟨x, k, r, o, L, cs, by simp, h2⟩
    · obtain ⟨x, k, r, o, L, cs, h1, h2⟩ := ih hc
      exact ⟨x, k, r, o, L, cs, by simp [h1], h2⟩

end Go.Ab
