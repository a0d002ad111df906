/-
  What follows an operation may be weakened.
  Regions in any order: an operation may be done ahead of others.
  Regions in any order: the theorem.
  A function's abstract text, whole; a tactic that steps through it.
  The abstract machine's propositions in a form that one can reckon through step by step: tests as forks, what is not plain reckoning at marked places.
  The reckoning form says what the abstract machine says: operations, regions, control.
  The walk's words, short: what is decided by arithmetic, or stands among the hypotheses, need not be said.
  A contract of the abstract machine as a call in the model: of arguments that are read alone.
  Ends of functions: what is handed back, said in one word.
  A result may be read as one reads it: inner slices by value, and not new.
  Arguments: what a claim's row reads of an argument is what an abstract value of the argument's shape says.
-/
import Derived.Laws.BitsLemmas
import Derived.Below
import Derived.OpenShut
import Derived.SizedLaws
import Derived.Test.YteiafekbmkbldaaK1
import Derived.Test.YteiafekbmkbldaaK3
set_option linter.all false
namespace Go.Ab
open Go

variable {P : Program} {d : Option Nat} {st : St} {K K' : St → Prop}

theorem newSl_mono {s : Nat} {rows : List (List V)} {mode : Option Nat} (h : newSl s rows mode d st K) (hK : ∀ s, K s → K' s) : newSl s rows mode d st K' := by
  unfold newSl at *
  split
  · exact hK _ h
  · exact ⟨h.1, hK _ h.2⟩

theorem call_mono {f : FuncId} {args : List Pm} {objs : List Nat} (h : call P f args objs d st K) (hK : ∀ s, K s → K' s) : call P f args objs d st K' := by
  obtain ⟨a, b, c, e, res, outs, fr, h1, h2, h3, h4⟩ := h
  exact ⟨a, b, c, e, res, outs, fr, h1, h2, h3, hK _ h4⟩

theorem binI_mono {op : BinOp} {k : IntKind} {a b : Int} {K K' : V → Prop} (h : binI op k a b K) (hK : ∀ s, K s → K' s) : binI op k a b K' := by
  cases op <;> first | exact h.elim | exact hK _ h | exact ⟨h.1, hK _ h.2⟩

theorem eff_cut {s : Nat} {x hi : X} {mode d : Option Nat} {st : St} {K : St → Prop} : eff P (.cut s x hi mode) d st K = (match x.ev st, hi.ev st with
      | .sref r i n, .int _ z => match st.heap r with
        | .rows s' rs => s' = s ∧ i = 0 ∧ n = rs.length ∧ 0 ≤ z ∧ z.toNat ≤ n ∧ match mode with
          | none => K ((st.kills [r]).put d (.sl true s (rs.take z.toNat)))
          | some r' => r' = r ∧ K (((st.kills [r]).set r (.rows s (rs.take z.toNat))).put d (.sref r 0 z.toNat))
        | _ => False
      | _, _ => False) := rfl
theorem eff_mono {o : O} (h : eff P o d st K) (hK : ∀ s, K s → K' s) : eff P o d st K' := by
  cases o with
  | mv x => exact hK _ h
  | pick c a b =>
    simp only [eff] at h ⊢
    generalize c.ev st = C at h ⊢
    generalize a.ev st = A at h ⊢
    generalize b.ev st = B at h ⊢
    cases C <;> first | exact h.elim | skip
    cases A <;> cases B <;> first | exact ⟨fun e => hK _ (h.1 e), fun e => hK _ (h.2 e)⟩ | exact hK _ h
  | box x r => exact ⟨h.1, h.2.1, hK _ h.2.2⟩
  | alloc z r objs => exact ⟨h.1, h.2.1, hK _ h.2.2⟩
  | nil s r => exact ⟨h.1, hK _ h.2⟩
  | build z parts => exact ⟨h.1, hK _ h.2⟩
  | bsl s parts mode =>
    cases parts with
    | nil =>
      cases mode with
      | none => exact hK _ h
      | some r => exact ⟨h.1, hK _ h.2⟩
    | cons p l => exact ⟨h.1, newSl_mono h.2 hK⟩
  | load agg n x =>
    simp only [eff] at h ⊢
    repeat' split at h
    all_goals first | exact h.elim | exact ⟨h.1, hK _ h.2⟩
  | store n x v =>
    simp only [eff] at h ⊢
    obtain ⟨a1, a2, h⟩ := h
    refine ⟨a1, a2, ?_⟩
    repeat' split at h
    all_goals first | exact h.elim | exact ⟨h.1, hK _ h.2⟩ | exact ⟨h.1, h.2.1, hK _ h.2.2⟩
  | loadb n x =>
    simp only [eff] at h ⊢
    repeat' split at h
    all_goals first | exact h.elim | exact ⟨h.1, hK _ h.2⟩
  | niltest ng x =>
    simp only [eff] at h ⊢
    split at h
    · exact ⟨fun e => ⟨hK _ (h.1 e).1, hK _ (h.1 e).2⟩, fun e => hK _ (h.2 e)⟩
    · exact ⟨hK _ h.1, hK _ h.2⟩
    · exact ⟨hK _ h.1, hK _ h.2⟩
    · exact h.elim
  | mkm r => exact ⟨h.1, hK _ h.2⟩
  | mget kd z x k =>
    simp only [eff] at h ⊢
    repeat' split at h
    all_goals first | exact h.elim | skip
    all_goals exact ⟨h.1, h.2.1, hK _ h.2.2⟩
  | mlen x =>
    simp only [eff] at h ⊢
    repeat' split at h
    all_goals first | exact h.elim | exact hK _ h
  | mset kd x k v =>
    simp only [eff] at h ⊢
    repeat' split at h
    all_goals first | exact h.elim | exact ⟨h.1, h.2.1, h.2.2.1, h.2.2.2.1, hK _ h.2.2.2.2⟩
  | mput f x g k n =>
    simp only [eff] at h ⊢
    generalize x.ev st = X at h ⊢
    generalize g.ev st = G at h ⊢
    generalize k.ev st = Y at h ⊢
    generalize n.ev st = N at h ⊢
    repeat' split at h
    all_goals first | exact h.elim | skip
    exact ⟨h.1, h.2.1, h.2.2.1, hK _ h.2.2.2⟩
  | faddr off x =>
    simp only [eff] at h ⊢
    split at h
    all_goals first | exact h.elim | exact hK _ h
  | iaddr s len x i =>
    simp only [eff] at h ⊢
    generalize i.ev st = I at h ⊢
    cases I <;> first | exact h.elim | skip
    cases len with
    | none =>
      simp only at h ⊢
      repeat' split at h
      all_goals first | exact h.elim | exact ⟨h.1, h.2.1, h.2.2.1, hK _ h.2.2.2⟩
    | some l =>
      refine ⟨h.1, h.2.1, ?_⟩
      have h := h.2.2
      split at h
      all_goals first | exact h.elim | exact hK _ h
  | field agg off n x =>
    simp only [eff] at h ⊢
    split at h
    all_goals first | exact h.elim | exact ⟨h.1, hK _ h.2⟩
  | index agg s len x i =>
    simp only [eff] at h ⊢
    generalize x.ev st = X at h ⊢
    generalize i.ev st = I at h ⊢
    cases X <;> first | exact h.elim | skip
    cases I <;> first | exact h.elim | exact ⟨h.1, h.2.1, h.2.2.1, hK _ h.2.2.2⟩
  | sidx x i =>
    simp only [eff] at h ⊢
    generalize x.ev st = X at h ⊢
    generalize i.ev st = I at h ⊢
    cases X <;> first | exact h.elim | skip
    cases I <;> first | exact h.elim | exact ⟨h.1, h.2.1, hK _ h.2.2⟩
  | ext k x =>
    simp only [eff] at h ⊢
    split at h
    all_goals first | exact h.elim | exact ⟨h.1, hK _ h.2⟩
  | bin op x y =>
    simp only [eff] at h ⊢
    generalize x.ev st = X at h ⊢
    generalize y.ev st = Y at h ⊢
    cases X <;> first | exact h.elim | skip
    cases Y <;> first | exact h.elim | exact ⟨h.1, binI_mono h.2 fun v => hK _⟩
  | eqs ng x y =>
    simp only [eff] at h ⊢
    generalize x.ev st = X at h ⊢
    generalize y.ev st = Y at h ⊢
    cases X <;> first | exact h.elim | skip
    cases Y <;> first | exact h.elim | exact hK _ h
  | eqb ng x y =>
    simp only [eff] at h ⊢
    generalize x.ev st = X at h ⊢
    generalize y.ev st = Y at h ⊢
    cases X <;> first | exact h.elim | skip
    cases Y <;> first | exact h.elim | exact hK _ h
  | eqa ng ks x y =>
    simp only [eff] at h ⊢
    generalize x.ev st = X at h ⊢
    generalize y.ev st = Y at h ⊢
    cases X <;> first | exact h.elim | skip
    cases Y <;> first | exact h.elim | skip
    rename_i a b
    simp only at h ⊢
    generalize eqK ks a b = E at h ⊢
    cases E <;> first | exact h.elim | exact hK _ h
  | not x =>
    simp only [eff] at h ⊢
    split at h
    all_goals first | exact h.elim | exact hK _ h
  | neg x =>
    simp only [eff] at h ⊢
    split at h
    all_goals first | exact h.elim | exact hK _ h
  | len x =>
    simp only [eff] at h ⊢
    split at h
    all_goals first | exact h.elim | exact hK _ h
  | slen x =>
    simp only [eff] at h ⊢
    split at h
    all_goals first | exact h.elim | exact hK _ h
  | app s bytes x y mode =>
    simp only [eff] at h ⊢
    split at h
    · exact h.elim
    · split at h
      · exact ⟨h.1, newSl_mono h.2 hK⟩
      · split at h
        · obtain ⟨h1, h2, h3, h4, h5⟩ := h
          refine ⟨h1, h2, h3, h4, ?_⟩
          cases mode with
          | none => exact hK _ h5
          | some r' => exact ⟨h5.1, hK _ h5.2⟩
        · exact h.elim
      · exact h.elim
  | slice s x lo hi =>
    revert h
    have key : ∀ L : V, (match x.ev st, L with
      | .sl f s' rows, .int _ l => match (match hi with | none => V.int .i64 rows.length | some h => h.ev st) with
        | .int _ h => s' = s ∧ 0 ≤ l ∧ l ≤ h ∧ h ≤ rows.length ∧ K (st.put d (.sl f s ((rows.take h.toNat).drop l.toNat)))
        | _ => False
      | .sref r i n, .int _ l => match st.heap r, (match hi with | none => V.int .i64 n | some h => h.ev st) with
        | .rows s' _, .int _ h => s' = s ∧ 0 ≤ l ∧ l ≤ h ∧ h ≤ n ∧ K (st.put d (.sref r (i + l.toNat) (h.toNat - l.toNat)))
        | _, _ => False
      | _, _ => False) → (match x.ev st, L with
      | .sl f s' rows, .int _ l => match (match hi with | none => V.int .i64 rows.length | some h => h.ev st) with
        | .int _ h => s' = s ∧ 0 ≤ l ∧ l ≤ h ∧ h ≤ rows.length ∧ K' (st.put d (.sl f s ((rows.take h.toNat).drop l.toNat)))
        | _ => False
      | .sref r i n, .int _ l => match st.heap r, (match hi with | none => V.int .i64 n | some h => h.ev st) with
        | .rows s' _, .int _ h => s' = s ∧ 0 ≤ l ∧ l ≤ h ∧ h ≤ n ∧ K' (st.put d (.sref r (i + l.toNat) (h.toNat - l.toNat)))
        | _, _ => False
      | _, _ => False) := by
      intro L h
      generalize x.ev st = X at h ⊢
      cases X <;> first | exact h.elim | skip
      · cases L <;> first | exact h.elim | skip
        rename_i r i n _ l
        simp only at h ⊢
        generalize (match hi with | none => V.int .i64 n | some h => h.ev st) = H at h ⊢
        generalize st.heap r = O at h ⊢
        cases O <;> first | exact h.elim | skip
        cases H <;> first | exact h.elim | exact ⟨h.1, h.2.1, h.2.2.1, h.2.2.2.1, hK _ h.2.2.2.2⟩
      · cases L <;> first | exact h.elim | skip
        rename_i f s' rows _ l
        simp only at h ⊢
        generalize (match hi with | none => V.int .i64 rows.length | some h => h.ev st) = H at h ⊢
        cases H <;> first | exact h.elim | exact ⟨h.1, h.2.1, h.2.2.1, h.2.2.2.1, hK _ h.2.2.2.2⟩
    exact fun h => key _ h
  | sslice x lo hi =>
    revert h
    have key : ∀ L : V, (match x.ev st, L with
      | .str b, .int _ l => match (match hi with | none => V.int .i64 b.size | some h => h.ev st) with
        | .int _ h => 0 ≤ l ∧ l ≤ h ∧ h ≤ b.size ∧ K (st.put d (.str (b.extract l.toNat h.toNat)))
        | _ => False
      | _, _ => False) → (match x.ev st, L with
      | .str b, .int _ l => match (match hi with | none => V.int .i64 b.size | some h => h.ev st) with
        | .int _ h => 0 ≤ l ∧ l ≤ h ∧ h ≤ b.size ∧ K' (st.put d (.str (b.extract l.toNat h.toNat)))
        | _ => False
      | _, _ => False) := by
      intro L h
      generalize x.ev st = X at h ⊢
      cases X <;> first | exact h.elim | skip
      cases L <;> first | exact h.elim | skip
      rename_i b _ l
      simp only at h ⊢
      generalize (match hi with | none => V.int .i64 b.size | some h => h.ev st) = H at h ⊢
      cases H <;> first | exact h.elim | exact ⟨h.1, h.2.1, h.2.2.1, hK _ h.2.2.2⟩
    exact fun h => key _ h
  | mks s bytes z n mode =>
    simp only [eff] at h ⊢
    generalize n.ev st = N at h ⊢
    cases N <;> first | exact h.elim | skip
    rename_i k m
    cases k <;> first | exact h.elim | exact ⟨h.1, h.2.1, h.2.2.1, newSl_mono h.2.2.2 hK⟩
  | mkf f first caps => exact hK _ h
  | max x y =>
    simp only [eff] at h ⊢
    generalize x.ev st = X at h ⊢
    generalize y.ev st = Y at h ⊢
    cases X <;> first | exact h.elim | skip
    cases Y <;> first | exact h.elim | exact ⟨h.1, hK _ h.2⟩
  | min x y =>
    simp only [eff] at h ⊢
    generalize x.ev st = X at h ⊢
    generalize y.ev st = Y at h ⊢
    cases X <;> first | exact h.elim | skip
    cases Y <;> first | exact h.elim | exact ⟨h.1, hK _ h.2⟩
  | call f args objs => exact call_mono h hK
  | cut s x hi mode =>
    rw [eff_cut] at h ⊢
    generalize x.ev st = X at h ⊢
    generalize hi.ev st = Y at h ⊢
    cases X <;> first | exact h.elim | skip
    cases Y <;> first | exact h.elim | skip
    rename_i r _ _ _ _
    simp only at h ⊢
    generalize st.heap r = O at h ⊢
    cases O <;> first | exact h.elim | skip
    obtain ⟨q1, q2, q3, q4, q5, h⟩ := h
    refine ⟨q1, q2, q3, q4, q5, ?_⟩
    cases mode with
    | none => exact hK _ h
    | some r' => exact ⟨h.1, hK _ h.2⟩
  | callp f args cands =>
    have e : ∀ K, eff P (.callp f args cands) d st K = (match firstDead st cands with | some r => call P f args [r] d st K | none => False) := fun _ => rfl
    rw [e] at h ⊢
    cases hf : firstDead st cands with
    | none => rw [hf] at h; exact h.elim
    | some r => rw [hf] at h; exact call_mono h hK
  | calln x args objs =>
    simp only [eff] at h ⊢
    split at h
    · exact ⟨h.1, h.2.1, h.2.2.1, call_mono h.2.2.2 hK⟩
    · exact h.elim
  | nilchk x =>
    simp only [eff] at h ⊢
    split at h
    all_goals first | exact h.elim | exact hK _ h

theorem effG_mono {o : Op'} (h : effG P o st K) (hK : ∀ s, K s → K' s) : effG P o st K' := by
  unfold effG at h ⊢
  cases hg : o.guard with
  | none => rw [hg] at h; exact eff_mono h hK
  | some x =>
    obtain ⟨t, w⟩ := x
    rw [hg] at h
    simp only at h ⊢
    generalize st.env t = T at h ⊢
    cases T <;> first | exact h.elim | exact ⟨fun e => eff_mono (h.1 e) hK, fun e => hK _ (h.2 e)⟩ | skip
    rename_i vs
    cases vs <;> first | exact h.elim | exact hK _ h

theorem wpOpsD_mono : ∀ {l : List (Op' × Nat)} {st : St} {K K' : St → Prop}, wpOpsD P l st K → (∀ s, K s → K' s) → wpOpsD P l st K'
  | [], _, _, _, h, hK => hK _ h
  | _ :: _, _, _, _, h, hK => ⟨h.1, effG_mono h.2 fun _ h' => wpOpsD_mono h' hK⟩

theorem wpOpsD_append : ∀ {l m : List (Op' × Nat)} {st : St} {K : St → Prop}, wpOpsD P (l ++ m) st K ↔ wpOpsD P l st fun s => wpOpsD P m s K
  | [], _, _, _ => Iff.rfl
  | _ :: _, _, _, _ => ⟨fun h => ⟨h.1, effG_mono h.2 fun _ h' => wpOpsD_append.1 h'⟩, fun h => ⟨h.1, effG_mono h.2 fun _ h' => wpOpsD_append.2 h'⟩⟩
end Go.Ab

namespace Go.Ab
open Go

variable {E : Ent} {n : Sz} {C : Ctx} {st : St} {a : Act} {P : Program}

inductive Script (P : Program) : List (Op' × Nat) → St → St → Prop where
  | nil {st : St} : Script P [] st st
  | cons {x : Op' × Nat} {l : List (Op' × Nat)} {st st' : St} {v : V} {news : List (Nat × AO)} (hd : Does P x.2 x.1 st v news) (hq : x.2 = 1 → quiet x.1 st) (t : Script P l ((st.sets news).put x.1.dst v) st') : Script P (x :: l) st st'

theorem pre_run : ∀ (pre : List (Op' × Nat)) {tail : List (Op' × Nat)} {st : St} {K : St → Prop}, (∀ x ∈ pre, (x.2 = 0 ∨ x.2 = 1 ∨ x.2 = 2) ∧ okClass x.1.op x.2 = true) → wpOpsD P (pre ++ tail) st K →
    ∃ st', wpOpsD P tail st' K ∧ Script P pre st st'
  | [], _, st, _, _, h => ⟨st, h, .nil⟩
  | x :: l, tail, st, K, hp, h => by
    obtain ⟨h1, h2⟩ := hp x (by simp)
    simp only [List.cons_append, wpOpsD] at h
    obtain ⟨v, news, h3, h4⟩ := effG_does h1 h2 h.1 h.2
    obtain ⟨st', h5, h6⟩ := pre_run l (fun y hy => hp y (by simp [hy])) h3
    exact ⟨st', h5, .cons h4 h.1 h6⟩

theorem Script.env {l : List (Op' × Nat)} {st st' : St} (h : Script P l st st') {t : Nat} (ht : ∀ x ∈ l, x.1.dst ≠ some t) : st'.env t = st.env t := by
  induction h with
  | nil => rfl
  | cons _ _ _ ih =>
    rw [ih fun y hy => ht y (by simp [hy]), put_env (ht _ (by simp)), sets_env]

theorem Script.heap {l : List (Op' × Nat)} {st st' : St} (h : Script P l st st') (hc : ∀ x ∈ l, x.2 = 0 ∨ x.2 = 1) {r : Nat} (hr : (st.heap r).isDead = false) : st'.heap r = st.heap r := by
  induction h with
  | nil => rfl
  | cons hd hq t ih =>
    rename_i x l st st' v news
    have e : ((st.sets news).put x.1.dst v).heap r = st.heap r := by
      rw [put_heap]
      refine sets_heap_not _ _ _ fun y hy e => ?_
      rcases hc x (by simp) with h0 | h1
      · rw [hd.pure h0] at hy; simp at hy
      · have := (hd.quiet h1).2 y.1 (List.mem_map_of_mem hy)
        rw [e, hr] at this; cases this
    rw [ih (fun y hy => hc y (by simp [hy])) (by rw [e]; exact hr), e]

theorem Script.heap0 {l : List (Op' × Nat)} {st st' : St} (h : Script P l st st') (hc : ∀ x ∈ l, x.2 = 0) : st'.heap = st.heap := by
  induction h with
  | nil => rfl
  | cons hd _ _ ih =>
    rw [ih fun y hy => hc y (by simp [hy]), put_heap, hd.pure (hc _ (by simp))]
    rfl

theorem quiet_same {o : Op'} {st st' : St} (h : ∀ t ∈ o.looks, st'.env t = st.env t) (hq : quiet o st) : quiet o st' := by
  have he := ev_same h
  obtain ⟨d, q, g⟩ := o
  cases q with
  | app s b x y m =>
    obtain ⟨s', hs⟩ := hq
    exact ⟨s', (he x (by simp [O.xs])).trans hs⟩
  | _ => exact hq

theorem apartO_spec {x y : Op'} (h : apartO x y = true) : (∀ d, x.dst = some d → d ∉ y.looks) ∧ (∀ d, x.dst = some d → y.dst ≠ some d) ∧ (∀ d, y.dst = some d → d ∉ x.looks) ∧ ∀ r ∈ x.op.names, r ∉ y.op.names := by
  unfold apartO at h
  simp only [Bool.and_eq_true, List.all_eq_true, Bool.not_eq_true'] at h
  obtain ⟨⟨h1, h2⟩, h3⟩ := h
  refine ⟨fun d hd hm => ?_, fun d hd => ?_, fun d hd hm => ?_, fun r hr hm => ?_⟩
  · rw [hd] at h1; simp only [Bool.and_eq_true, Bool.not_eq_true'] at h1; rw [inl_iff.2 hm] at h1; simp at h1
  · rw [hd] at h1; simp only [Bool.and_eq_true, bne_iff_ne] at h1; exact h1.2
  · rw [hd] at h2; simp only [Bool.not_eq_true'] at h2; rw [inl_iff.2 hm] at h2; cases h2
  · have := h3 r hr; rw [inl_iff.2 hm] at this; cases this

theorem okPair_spec {x c : Nat} (h : okPair x c = true) : (x = 0 ∧ c = 0) ∨ (x = 0 ∧ c = 1) ∨ (x = 1 ∧ c = 0) ∨ (x = 1 ∧ c = 1) ∨ (x = 0 ∧ c = 2) ∨ (x = 2 ∧ c = 0) := by
  unfold okPair at h
  split at h <;> simp_all

theorem Script.replay {c : Nat} {o : Op'} {si : List (Nat × AO)} {vi : V} (h0 : c = 0 → si = []) (h1 : c = 1 → ∀ y ∈ si, y.1 ∈ o.op.names) {l : List (Op' × Nat)} {st st' : St} (h : Script P l st st')
    (hp : ∀ x ∈ l, okPair x.2 c = true ∧ apartO x.1 o = true) (hdead : c = 1 → ∀ y ∈ si, (st'.heap y.1).isDead = true) {tail : List (Op' × Nat)} {K : St → Prop} (hk : wpOpsD P tail ((st'.sets si).put o.dst vi) K) :
    wpOpsD P (l ++ tail) ((st.sets si).put o.dst vi) K := by
  induction h with
  | nil => exact hk
  | cons hd hq t ih =>
    rename_i x l s s' v news
    have ih := ih (fun y hy => hp y (by simp [hy])) hdead hk
    obtain ⟨hpx, hax⟩ := hp x (by simp)
    obtain ⟨a1, a2, a3, a4⟩ := apartO_spec hax
    have hcls := okPair_spec hpx
    have hlooks : ∀ t ∈ x.1.looks, ((s.sets si).put o.dst vi).env t = s.env t := fun t ht => by
      rw [put_env (fun e => a3 t e ht), sets_env]
    -- what is dead behind all is dead ahead
    have hdead' : c = 1 → ∀ y ∈ si, (s.heap y.1).isDead = true := fun hc y hy => by
      have hall : ∀ z ∈ x :: l, z.2 = 0 ∨ z.2 = 1 := fun z hz => by
        have := okPair_spec (hp z hz).1
        omega
      by_cases hl : (s.heap y.1).isDead = true
      · exact hl
      · have hl' : (s.heap y.1).isDead = false := by simpa using hl
        have e := (Script.cons (x := x) hd hq t).heap hall hl'
        have := hdead hc y hy
        rw [e] at this; exact this
    have hheap : c ≠ 2 → ∀ r, (s.heap r).isDead = false → ((s.sets si).put o.dst vi).heap r = s.heap r := fun hc r hr => by
      rw [put_heap]
      refine sets_heap_not _ _ _ fun y hy e => ?_
      have : c = 0 ∨ c = 1 := by omega
      rcases this with h | h
      · rw [h0 h] at hy; simp at hy
      · have := hdead' h y hy
        rw [e, hr] at this; cases this
    simp only [List.cons_append, wpOpsD]
    refine ⟨fun hx => quiet_same hlooks (hq hx), ?_⟩
    refine hd.again _ ⟨hlooks, fun hx z hz r hr hl => hheap (by omega) r hl, fun hx => ?_⟩ (fun _ _ _ _ => trivial) (fun hx r hr hdr => ?_) _ ?_
    · have : c = 0 := by omega
      rw [put_heap, h0 this]; rfl
    · rw [put_heap]
      have : c = 0 ∨ c = 1 := by omega
      rcases this with h | h
      · rw [h0 h]; exact hdr
      · rw [sets_heap_not _ si r fun y hy e => a4 r hr (by rw [← e]; exact h1 h y hy)]; exact hdr
    · rw [effects_comm s (l := si) (m := news) (d := o.dst) (e := x.1.dst) (fun y hy z hz e => ?_) (fun t ht e => a2 t e ht)]
      · exact ih
      · have : (c = 0 ∨ x.2 = 0) ∨ (c = 1 ∧ x.2 = 1) := by omega
        rcases this with (h | h) | ⟨hc, hx⟩
        · rw [h0 h] at hy; simp at hy
        · rw [hd.pure h] at hz; simp at hz
        · exact a4 z.1 ((hd.quiet hx).1 z hz).1 (by rw [← e]; exact h1 hc y hy)



def gd (o : Op') (st : St) : Option Bool :=
  match o.guard with
  | none => some true
  | some (t, w) => match st.env t with
    | .bool b => some (b == w)
    | .tup [] => some false
    | _ => none
def doG (P : Program) (o : Op') (st : St) (K : St → Prop) : Prop :=
  match gd o st with
  | some true => eff P o.op o.dst st K
  | some false => K (st.put o.dst (.tup []))
  | none => False

theorem effG_iff {o : Op'} {K : St → Prop} : effG P o st K ↔ doG P o st K := by
  unfold effG doG gd
  cases hg : o.guard with
  | none => exact Iff.rfl
  | some x =>
    obtain ⟨t, w⟩ := x
    simp only
    cases hT : st.env t with
    | bool b =>
      simp only
      by_cases hb : b = w
      · subst hb
        simp only [beq_self_eq_true]
        constructor
        · intro h; have := h.1 (by first | rfl | trivial); rwa [put_self hT] at this
        · intro h; exact ⟨fun _ => by rwa [put_self hT], fun e => by cases b <;> cases e⟩
      · have hnb : b = !w := by cases b <;> cases w <;> simp_all
        have hf : (b == w) = false := by simpa using hb
        rw [hf]
        constructor
        · intro h; have := h.2 hnb; rwa [put_self (by rw [hT, hnb])] at this
        · intro h; exact ⟨fun e => absurd e hb, fun _ => by rwa [put_self (by rw [hT, hnb])]⟩
    | tup vs => cases vs <;> exact Iff.rfl
    | _ => exact Iff.rfl

theorem gd_same {o : Op'} {st' : St} (h : ∀ t ∈ o.looks, st'.env t = st.env t) : gd o st' = gd o st := by
  unfold gd
  cases hg : o.guard with
  | none => rfl
  | some x =>
    obtain ⟨t, w⟩ := x
    simp only
    rw [h t (by simp [Op'.looks, hg])]

theorem kill_bool {p : Nat → Bool} {v : V} {b : Bool} (h : v.kill p = .bool b) : v = .bool b := by
  cases v <;> simp only [V.kill, V.kill1] at h <;> first | (cases h; done) | (split at h <;> first | (cases h; done) | exact h)
theorem kill_tup {p : Nat → Bool} {v : V} (h : v.kill p = .tup []) : v = .tup [] := by
  cases v with
  | tup vs => cases vs <;> first | rfl | simp [V.kill] at h
  | agg cs => simp [V.kill] at h
  | _ => simp only [V.kill, V.kill1] at h; split at h <;> cases h
theorem gd_kill {o : Op'} {st' : St} {p : Nat → Bool} (h : ∀ t ∈ o.looks, st'.env t = (st.env t).kill p) {b : Bool} (hb : gd o st' = some b) : gd o st = some b := by
  unfold gd at *
  cases hg : o.guard with
  | none => rw [hg] at hb; exact hb
  | some x =>
    obtain ⟨t, w⟩ := x
    rw [hg] at hb
    simp only at hb ⊢
    rw [h t (by simp [Op'.looks, hg])] at hb
    split at hb
    · rename_i h1; rw [kill_bool h1]; exact hb
    · rename_i h1; rw [kill_tup h1]; exact hb
    · cases hb

theorem kill_ptr {p : Nat → Bool} {v : V} {r off : Nat} (h : v.kill p = .ptr r off) : v = .ptr r off ∧ p r = false := by
  cases v <;> simp only [V.kill, V.kill1] at h <;> first | cases h | skip
  all_goals
    split at h <;> first | cases h | skip
  rename_i hn
  refine ⟨rfl, ?_⟩
  simpa [V.has] using hn

theorem eff_loadb {k : Nat} {z : X} {d : Option Nat} {K : St → Prop} : eff P (.loadb k z) d st K ↔ ∃ r off cs, z.ev st = .ptr r off ∧ st.heap r = .box cs ∧ off + k ≤ cs.length ∧ K (st.put d (pickc true k off cs)) := by
  constructor
  · intro h
    simp only [eff] at h
    split at h
    · split at h
      · rename_i h1 _ _ h2; exact ⟨_, _, _, h1, h2, h.1, h.2⟩
      · exact h.elim
    · exact h.elim
  · rintro ⟨r, off, cs, h1, h2, h3, h4⟩
    simp only [eff, h1, h2]
    exact ⟨h3, h4⟩

theorem eff_appN {s bytes : Nat} {x y : X} {d : Option Nat} {K : St → Prop} : eff P (.app s bytes x y none) d st K ↔ ∃ ys, srcRows st s (y.ev st) = some ys ∧
    ((∃ s0, x.ev st = .nils s0 ∧ ys.length * bytes ≤ 140737488355328 ∧ K (st.put d (.sl true s ys))) ∨
     (∃ r n rs, x.ev st = .sref r 0 n ∧ st.heap r = .rows s rs ∧ n = rs.length ∧ (n + ys.length) * bytes ≤ 140737488355328 ∧ K ((st.kills [r]).put d (.sl true s (rs ++ ys))))) := by
  constructor
  · intro h
    simp only [eff] at h
    split at h
    · exact h.elim
    · rename_i ys hy
      refine ⟨ys, hy, ?_⟩
      split at h
      · rename_i hx; exact .inl ⟨_, hx, h.1, h.2⟩
      · rename_i r i n hx
        split at h
        · rename_i s' rs hr
          obtain ⟨rfl, rfl, h3, h4, h5⟩ := h
          exact .inr ⟨r, n, rs, hx, hr, h3, h4, h5⟩
        · exact h.elim
      · exact h.elim
  · rintro ⟨ys, hy, ⟨s0, hx, h1, h2⟩ | ⟨r, n, rs, hx, hr, h1, h2, h3⟩⟩
    · simp only [eff, hy, hx]; exact ⟨h1, h2⟩
    · simp only [eff, hy, hx, hr]; exact ⟨by first | rfl | trivial, by first | rfl | trivial, h1, h2, h3⟩

theorem put_comm {st : St} {d e : Option Nat} {v w : V} (h : ∀ t, d = some t → e ≠ some t) : (st.put d v).put e w = (st.put e w).put d v := by
  refine St.ext' (fun i => ?_) (fun i => by rw [put_heap, put_heap, put_heap, put_heap])
  by_cases h1 : d = some i
  · have h2 := h i h1
    rw [put_env h2]
    subst h1
    simp [St.put, upd]
  · by_cases h2 : e = some i
    · subst h2
      rw [put_env h1]; simp [St.put, upd]
    · rw [put_env h2, put_env h1, put_env h1, put_env h2]

theorem kills_put {st : St} {d : Option Nat} {v : V} {r : Nat} : (st.put d v).kills [r] = (st.kills [r]).put d (v.kill (inl [r])) := by
  cases d with
  | none => rfl
  | some t =>
    refine St.ext' (fun i => ?_) (fun i => rfl)
    simp only [St.put, St.kills, St.killP, upd]
    split <;> rfl

theorem swap0 {A L : Op' × Nat} (h : swapOk0 A L = true) {l : List (Op' × Nat)} {K : St → Prop} (hk : wpOpsD P (A :: L :: l) st K) : wpOpsD P (L :: A :: l) st K := by
  unfold swapOk0 at h
  simp only [Bool.and_eq_true, beq_iff_eq] at h
  obtain ⟨⟨⟨hA, hA3⟩, hL⟩, hap⟩ := h
  obtain ⟨⟨dA, oA, gA⟩, cA⟩ := A
  obtain ⟨⟨dL, oL, gL⟩, cL⟩ := L
  simp only at hA hA3 hL
  cases oA <;> first | (cases hA; done) | skip
  rename_i s bytes x y mode
  cases mode <;> first | (cases hA; done) | skip
  cases oL <;> first | (cases hL; done) | skip
  rename_i n z
  subst hA3
  obtain ⟨a1, a2, a3, a4⟩ := apartO_spec hap
  simp only at a1 a2 a3
  obtain ⟨_, hk⟩ := hk
  refine ⟨fun _ => trivial, ?_⟩
  rw [effG_iff] at hk ⊢
  -- what L sees, A's slot apart
  have envL : ∀ (s0 : St) (v : V), ∀ t ∈ (⟨dL, .loadb n z, gL⟩ : Op').looks, (s0.put dA v).env t = s0.env t := fun s0 v t ht => put_env fun e => a1 t e ht
  have envA : ∀ (s0 : St) (v : V), ∀ t ∈ (⟨dA, .app s bytes x y none, gA⟩ : Op').looks, (s0.put dL v).env t = s0.env t := fun s0 v t ht => put_env fun e => a3 t e ht
  have comm : ∀ (s0 : St) (v w : V), (s0.put dA v).put dL w = (s0.put dL w).put dA v := fun s0 v w => put_comm a2
  -- A, behind L's slot
  have againA : ∀ (v : V) (K' : St → Prop), (gd ⟨dA, .app s bytes x y none, gA⟩ (st.put dL v)) = gd ⟨dA, .app s bytes x y none, gA⟩ st := fun v K' => gd_same (envA st v)
  unfold doG at hk
  cases hgA : gd ⟨dA, .app s bytes x y none, gA⟩ st with
  | none => rw [hgA] at hk; exact hk.elim
  | some bA =>
    rw [hgA] at hk
    cases bA with
    | false =>
      simp only at hk
      obtain ⟨_, hk⟩ := hk
      rw [effG_iff] at hk
      unfold doG at hk ⊢
      rw [gd_same (envL st _)] at hk
      cases hgL : gd ⟨dL, .loadb n z, gL⟩ st with
      | none => rw [hgL] at hk; exact hk.elim
      | some bL =>
        rw [hgL] at hk
        cases bL with
        | false =>
          simp only at hk ⊢
          refine ⟨fun e => (by cases e), ?_⟩
          rw [effG_iff]; unfold doG
          rw [againA _ K, hgA]
          simp only
          rw [← comm]; exact hk
        | true =>
          simp only at hk ⊢
          obtain ⟨r, off, cs, h1, h2, h3, h4⟩ := eff_loadb.1 hk
          rw [ev_same (o := ⟨dL, .loadb n z, gL⟩) (envL st _) z (by simp [O.xs])] at h1
          rw [put_heap] at h2
          refine eff_loadb.2 ⟨r, off, cs, h1, h2, h3, fun e => (by cases e), ?_⟩
          rw [effG_iff]; unfold doG
          rw [againA _ K, hgA]
          simp only
          rw [← comm]; exact h4
    | true =>
      simp only at hk
      obtain ⟨ys, hy, hcase⟩ := eff_appN.1 hk
      have evA : ∀ (v : V), x.ev (st.put dL v) = x.ev st ∧ y.ev (st.put dL v) = y.ev st := fun v =>
        ⟨ev_same (o := ⟨dA, .app s bytes x y none, gA⟩) (envA st v) x (by simp [O.xs]), ev_same (o := ⟨dA, .app s bytes x y none, gA⟩) (envA st v) y (by simp [O.xs])⟩
      have srcA : ∀ (v : V), srcRows (st.put dL v) s (y.ev (st.put dL v)) = some ys := fun v => by
        rw [(evA v).2, ← hy]
        unfold srcRows
        simp only [put_heap]
      rcases hcase with ⟨s0, hx, hb, hk⟩ | ⟨r, m, rs, hx, hr, hm, hb, hk⟩
      · obtain ⟨_, hk⟩ := hk
        rw [effG_iff] at hk
        unfold doG at hk ⊢
        rw [gd_same (envL st _)] at hk
        cases hgL : gd ⟨dL, .loadb n z, gL⟩ st with
        | none => rw [hgL] at hk; exact hk.elim
        | some bL =>
          rw [hgL] at hk
          cases bL with
          | false =>
            simp only at hk ⊢
            refine ⟨fun e => (by cases e), ?_⟩
            rw [effG_iff]; unfold doG
            rw [againA _ K, hgA]
            simp only
            refine eff_appN.2 ⟨ys, srcA _, .inl ⟨s0, (evA _).1.trans hx, hb, ?_⟩⟩
            rw [← comm]; exact hk
          | true =>
            simp only at hk ⊢
            obtain ⟨q, off, cs, h1, h2, h3, h4⟩ := eff_loadb.1 hk
            rw [ev_same (o := ⟨dL, .loadb n z, gL⟩) (envL st _) z (by simp [O.xs])] at h1
            rw [put_heap] at h2
            refine eff_loadb.2 ⟨q, off, cs, h1, h2, h3, fun e => (by cases e), ?_⟩
            rw [effG_iff]; unfold doG
            rw [againA _ K, hgA]
            simp only
            refine eff_appN.2 ⟨ys, srcA _, .inl ⟨s0, (evA _).1.trans hx, hb, ?_⟩⟩
            rw [← comm]; exact h4
      · obtain ⟨_, hk⟩ := hk
        rw [effG_iff] at hk
        have hkl : ∀ t ∈ (⟨dL, .loadb n z, gL⟩ : Op').looks, ((st.kills [r]).put dA (.sl true s (rs ++ ys))).env t = (st.env t).kill (inl [r]) := fun t ht => envL _ _ t ht
        unfold doG at hk ⊢
        cases hgL' : gd ⟨dL, .loadb n z, gL⟩ ((st.kills [r]).put dA (.sl true s (rs ++ ys))) with
        | none => rw [hgL'] at hk; exact hk.elim
        | some bL =>
          rw [hgL'] at hk
          rw [gd_kill hkl hgL']
          cases bL with
          | false =>
            simp only at hk ⊢
            refine ⟨fun e => (by cases e), ?_⟩
            rw [effG_iff]; unfold doG
            rw [againA _ K, hgA]
            simp only
            refine eff_appN.2 ⟨ys, srcA _, .inr ⟨r, m, rs, (evA _).1.trans hx, by rw [put_heap]; exact hr, hm, hb, ?_⟩⟩
            rw [kills_put, ← comm]; exact hk
          | true =>
            simp only at hk ⊢
            obtain ⟨q, off, cs, h1, h2, h3, h4⟩ := eff_loadb.1 hk
            have hz : z.ev st = .ptr q off ∧ (q == r) = false := by
              cases z with
              | k v =>
                simp only [X.ev] at h1 ⊢
                refine ⟨h1, ?_⟩
                rw [put_heap] at h2
                cases hqr : (q == r) with
                | false => rfl
                | true =>
                  simp only [St.kills, St.killP, inl, hqr, Bool.true_or, if_true] at h2
                  cases h2
              | t t0 =>
                simp only [X.ev] at h1 ⊢
                rw [hkl t0 (by simp [Op'.looks, O.xs, X.tmps])] at h1
                obtain ⟨e1, e2⟩ := kill_ptr h1
                exact ⟨e1, by simpa [inl] using e2⟩
            rw [put_heap] at h2
            simp only [St.kills, St.killP, inl, hz.2, Bool.or_false, Bool.false_eq_true, if_false] at h2
            cases hq : st.heap q with
            | box cs0 =>
              rw [hq] at h2
              simp only [AO.kill, AO.box.injEq] at h2
              subst h2
              refine eff_loadb.2 ⟨q, off, cs0, hz.1, hq, by simpa using h3, fun e => (by cases e), ?_⟩
              rw [effG_iff]; unfold doG
              rw [againA _ K, hgA]
              simp only
              refine eff_appN.2 ⟨ys, srcA _, .inr ⟨r, m, rs, (evA _).1.trans hx, by rw [put_heap]; exact hr, hm, hb, ?_⟩⟩
              rw [kills_put, ← comm]
              have e0 : (fun i => i == r) = inl [r] := by funext i; simp [inl]
              rw [e0] at h4
              have e : pickc true n off (cs0.map (V.kill1 (inl [r]))) = (pickc true n off cs0).kill (inl [r]) := by
                simp only [pickc, if_true, V.kill, List.map_drop, List.map_take]
              rw [← e]; exact h4
            | _ => rw [hq] at h2; simp [AO.kill] at h2


def V.killL (v : V) : List Nat → V
  | [] => v
  | k :: l => v.kill (inl (k :: l))
theorem kills_putL {st : St} {d : Option Nat} {v : V} : ∀ kl : List Nat, (st.put d v).kills kl = (st.kills kl).put d (v.killL kl)
  | [] => rfl
  | k :: l => by
    cases d with
    | none => rfl
    | some t =>
      refine St.ext' (fun i => ?_) (fun i => rfl)
      simp only [St.put, St.kills, St.killP, upd, V.killL]
      split <;> rfl
theorem kills_env {st : St} {t : Nat} : ∀ kl : List Nat, (st.kills kl).env t = (st.env t).killL kl
  | [] => rfl
  | _ :: _ => rfl
theorem put_sets {st : St} {d : Option Nat} {v : V} : ∀ l : List (Nat × AO), (st.put d v).sets l = (st.sets l).put d v
  | [] => rfl
  | (r, o) :: l => by
    have : (st.put d v).set r o = (st.set r o).put d v := by cases d <;> rfl
    simp only [St.sets]
    rw [this, put_sets l]
def fav (off : Nat) : V → Option V
  | .ptr r o => some (.ptr r (o + off))
  | .rptr r i o => some (.rptr r i (o + off))
  | .cp cs o => some (.cp cs (o + off))
  | _ => none
theorem fav_kill {off : Nat} {v w : V} {p : Nat → Bool} (h : fav off (v.kill p) = some w) : fav off v = some w ∧ w.kill p = w := by
  cases v <;> simp only [V.kill, V.kill1] at h <;> first
    | (cases h; done)
    | skip
  all_goals
    split at h <;> first | (cases h; done) | skip
  all_goals first
    | (simp [fav] at h; done)
    | (rename_i hn
       simp only [fav, Option.some.injEq] at h
       subst h
       refine ⟨rfl, ?_⟩
       simp only [V.kill, V.kill1]
       rw [if_neg]
       first | (simp [V.has]; done) | simpa [V.has] using hn)
theorem fav_killL {off : Nat} {v w : V} : ∀ {kl : List Nat}, fav off (v.killL kl) = some w → fav off v = some w ∧ w.killL kl = w
  | [], h => ⟨h, rfl⟩
  | _ :: _, h => fav_kill h
theorem eff_faddr {off : Nat} {z : X} {d : Option Nat} {K : St → Prop} : eff P (.faddr off z) d st K ↔ ∃ w, fav off (z.ev st) = some w ∧ K (st.put d w) := by
  simp only [eff]
  cases z.ev st <;> simp [fav]
theorem eff_app {s bytes : Nat} {x y : X} {mode : Option Nat} {d : Option Nat} {K : St → Prop} (h : eff P (.app s bytes x y mode) d st K) :
    ∃ kl news v, K (((st.kills kl).sets news).put d v) ∧ ∀ st' : St, x.ev st' = x.ev st → y.ev st' = y.ev st → st'.heap = st.heap → ∀ K' : St → Prop, K' (((st'.kills kl).sets news).put d v) → eff P (.app s bytes x y mode) d st' K' := by
  simp only [eff] at h
  split at h
  · exact h.elim
  · rename_i ys hy
    have src : ∀ st' : St, y.ev st' = y.ev st → st'.heap = st.heap → srcRows st' s (y.ev st') = some ys := fun st' e1 e2 => by
      rw [e1, ← hy]; unfold srcRows; simp only [e2]
    split at h
    · rename_i hx
      obtain ⟨h1, h2⟩ := h
      unfold newSl at h2
      cases mode with
      | none =>
        refine ⟨[], [], _, h2, fun st' e1 e2 e3 K' hk => ?_⟩
        simp only [eff, src st' e2 e3, e1, hx]
        exact ⟨h1, hk⟩
      | some r =>
        refine ⟨[], [(r, .rows s ys)], _, h2.2, fun st' e1 e2 e3 K' hk => ?_⟩
        simp only [eff, src st' e2 e3, e1, hx]
        exact ⟨h1, by rw [e3]; exact h2.1, hk⟩
    · rename_i r i n hx
      split at h
      · rename_i s' rs hr
        obtain ⟨rfl, rfl, h3, h4, h5⟩ := h
        cases mode with
        | none =>
          refine ⟨[r], [], _, h5, fun st' e1 e2 e3 K' hk => ?_⟩
          simp only [eff, src st' e2 e3, e1, hx, e3, hr]
          exact ⟨trivial, trivial, h3, h4, hk⟩
        | some r' =>
          refine ⟨[r], [(r, .rows s' (rs ++ ys))], _, h5.2, fun st' e1 e2 e3 K' hk => ?_⟩
          simp only [eff, src st' e2 e3, e1, hx, e3, hr]
          exact ⟨trivial, trivial, h3, h4, h5.1, hk⟩
      · exact h.elim
    · exact h.elim
theorem gd_killL {o : Op'} {st' : St} : ∀ {kl : List Nat}, (∀ t ∈ o.looks, st'.env t = (st.env t).killL kl) → ∀ {b : Bool}, gd o st' = some b → gd o st = some b
  | [], h, b, hb => by rw [← gd_same (st := st) (st' := st') h]; exact hb
  | _ :: _, h, _, hb => gd_kill h hb
theorem swapF {A L : Op' × Nat} (h : swapOkF A L = true) {l : List (Op' × Nat)} {K : St → Prop} (hk : wpOpsD P (A :: L :: l) st K) : wpOpsD P (L :: A :: l) st K := by
  unfold swapOkF at h
  simp only [Bool.and_eq_true, beq_iff_eq] at h
  obtain ⟨⟨⟨hA, hA3⟩, hL⟩, hap⟩ := h
  obtain ⟨⟨dA, oA, gA⟩, cA⟩ := A
  obtain ⟨⟨dL, oL, gL⟩, cL⟩ := L
  simp only at hA hA3 hL
  cases oA <;> first | (cases hA; done) | skip
  rename_i s bytes x y mode
  cases oL <;> first | (cases hL; done) | skip
  rename_i off z
  subst hA3
  obtain ⟨a1, a2, a3, a4⟩ := apartO_spec hap
  simp only at a1 a2 a3
  obtain ⟨_, hk⟩ := hk
  refine ⟨fun _ => trivial, ?_⟩
  rw [effG_iff] at hk ⊢
  have envA : ∀ (s0 : St) (v : V), ∀ t ∈ (⟨dA, .app s bytes x y mode, gA⟩ : Op').looks, (s0.put dL v).env t = s0.env t := fun s0 v t ht => put_env fun e => a3 t e ht
  have comm : ∀ (s0 : St) (v w : V), (s0.put dA v).put dL w = (s0.put dL w).put dA v := fun s0 v w => put_comm a2
  have againA : ∀ (v : V), (gd ⟨dA, .app s bytes x y mode, gA⟩ (st.put dL v)) = gd ⟨dA, .app s bytes x y mode, gA⟩ st := fun v => gd_same (envA st v)
  -- what comes of A: T, and A again behind L's slot
  have key : ∀ (kl : List Nat) (news : List (Nat × AO)) (v : V), (wpOpsD P (⟨⟨dL, .faddr off z, gL⟩, cL⟩ :: l) (((st.kills kl).sets news).put dA v) K) →
      (∀ w : V, ∀ K' : St → Prop, K' ((((st.put dL w).kills kl).sets news).put dA v) → doG P ⟨dA, .app s bytes x y mode, gA⟩ (st.put dL w) K') →
      doG P ⟨dL, .faddr off z, gL⟩ st fun s0 => wpOpsD P (⟨⟨dA, .app s bytes x y mode, gA⟩, 3⟩ :: l) s0 K := by
    intro kl news v hk hagain
    obtain ⟨_, hk⟩ := hk
    rw [effG_iff] at hk
    have hlk : ∀ t ∈ (⟨dL, .faddr off z, gL⟩ : Op').looks, (((st.kills kl).sets news).put dA v).env t = (st.env t).killL kl := fun t ht => by
      rw [put_env fun e => a1 t e ht, sets_env, kills_env]
    unfold doG at hk ⊢
    cases hg : gd ⟨dL, .faddr off z, gL⟩ (((st.kills kl).sets news).put dA v) with
    | none => rw [hg] at hk; exact hk.elim
    | some b =>
      rw [hg] at hk
      rw [gd_killL hlk hg]
      have done : ∀ w : V, w.killL kl = w → wpOpsD P l ((((st.kills kl).sets news).put dA v).put dL w) K → wpOpsD P (⟨⟨dA, .app s bytes x y mode, gA⟩, 3⟩ :: l) (st.put dL w) K := fun w hw hk' => by
        refine ⟨fun e => (by cases e), ?_⟩
        rw [effG_iff]
        refine hagain w _ ?_
        rw [kills_putL, put_sets, hw, ← comm]; exact hk'
      cases b with
      | false =>
        refine done _ ?_ hk
        cases kl <;> rfl
      | true =>
        obtain ⟨w, h1, h2⟩ := eff_faddr.1 hk
        cases z with
        | k u => cases hL
        | t t0 =>
          simp only [X.ev] at h1
          rw [hlk t0 (by simp [Op'.looks, O.xs, X.tmps])] at h1
          obtain ⟨e1, e2⟩ := fav_killL h1
          exact eff_faddr.2 ⟨w, e1, done w e2 h2⟩
  unfold doG at hk
  cases hgA : gd ⟨dA, .app s bytes x y mode, gA⟩ st with
  | none => rw [hgA] at hk; exact hk.elim
  | some bA =>
    rw [hgA] at hk
    cases bA with
    | false =>
      refine key [] [] (.tup []) hk fun w K' hk' => ?_
      unfold doG
      rw [againA w, hgA]
      exact hk'
    | true =>
      obtain ⟨kl, news, v, h1, h2⟩ := eff_app hk
      refine key kl news v h1 fun w K' hk' => ?_
      unfold doG
      rw [againA w, hgA]
      exact h2 _ (ev_same (o := ⟨dA, .app s bytes x y mode, gA⟩) (envA st w) x (by simp [O.xs])) (ev_same (o := ⟨dA, .app s bytes x y mode, gA⟩) (envA st w) y (by simp [O.xs])) put_heap K' hk'

theorem swap {A L : Op' × Nat} (h : swapOk A L = true) {l : List (Op' × Nat)} {K : St → Prop} (hk : wpOpsD P (A :: L :: l) st K) : wpOpsD P (L :: A :: l) st K := by
  unfold swapOk at h
  rw [Bool.or_eq_true] at h
  exact h.elim (fun h => swap0 h hk) (fun h => swapF h hk)
end Go.Ab

namespace Go.Ab
open Go

variable {E : Ent} {n : Sz} {C : Ctx} {st : St} {a : Act} {P : Program}

theorem R_live {v : V} {u : Value} (h : R C v u) : ∀ q, v.has (fun i => i == q) = true → (C.heap q).isDead = false := by
  have hasL_get : ∀ {l : List V} {p : Nat → Bool}, V.hasL p l = true → ∃ (j : Nat) (c : V), l[j]? = some c ∧ c.has p = true := by
    intro l p h
    induction l with
    | nil => simp [V.hasL] at h
    | cons v l ih =>
      simp only [V.hasL, Bool.or_eq_true] at h
      rcases h with h | h
      · exact ⟨0, v, rfl, h⟩
      · obtain ⟨j, c, h1, h2⟩ := ih h; exact ⟨j + 1, c, by simpa using h1, h2⟩
  induction h with
  | ptr r off cs L h hl => intro q hq; simp [V.has] at hq; subst hq; rw [h]; rfl
  | rptr r i off s rs L h hl hi => intro q hq; simp [V.has] at hq; subst hq; rw [h]; rfl
  | sref r i m s rs L h hl hi => intro q hq; simp [V.has] at hq; subst hq; rw [h]; rfl
  | srefNil r s h hl => intro q hq; simp [V.has] at hq; subst hq; rw [h]; rfl
  | srefZ r i s rs b off h hi => intro q hq; simp [V.has] at hq; subst hq; rw [h]; rfl
  | mp r ks vs L h hl => intro q hq; simp [V.has] at hq; subst hq; rw [h]; rfl
  | agg cs us hl h1 hr ih =>
    intro q hq
    obtain ⟨j, c, h2, h3⟩ := hasL_get (by simpa [V.has] using hq)
    exact ih j c h2 q h3
  | tup cs us hl hr ih =>
    intro q hq
    obtain ⟨j, c, h2, h3⟩ := hasL_get (by simpa [V.has] using hq)
    exact ih j c h2 q h3
  | fn f first caps us ws hl hl' hr hr' ih ih' =>
    intro q hq
    simp only [V.has, Bool.or_eq_true] at hq
    rcases hq with hq | hq
    · obtain ⟨j, c, h2, h3⟩ := hasL_get hq; exact ih j c h2 q h3
    · obtain ⟨j, c, h2, h3⟩ := hasL_get hq; exact ih' j c h2 q h3
  | _ => intro q hq; simp [V.has] at hq

theorem Inv.ground (h : Inv E n C st a) {st' : St} (hs : ∀ r, (st.heap r).isDead = false → st'.heap r = st.heap r) {v : V} {r : Nat} (hr : Reach st' v r) : (∀ q, v.has (fun i => i == q) = true → (st.heap q).isDead = false) → (st.heap r).isDead = false := by
  induction hr with
  | here h1 => intro hv; exact hv _ h1
  | box h1 hq hc t ih =>
    rename_i v q r cs c
    intro hv
    have hl := hv q h1
    rw [hs q hl] at hq
    refine ih fun q' hq' => ?_
    have ho := h.objs q
    unfold ObjOk at ho
    rw [h.heap, hq] at ho
    obtain ⟨L, _, ⟨cur, e, g, _, g3⟩, _⟩ := ho
    obtain ⟨j, hj⟩ := List.getElem?_of_mem hc
    have := R_live (g3 j c hj).2.2 q' hq'
    rw [h.heap] at this; exact this

theorem Inv.ev_live (h : Inv E n C st a) {x : X} (hx : x.okK = true) : ∀ q, (x.ev st).has (fun i => i == q) = true → (st.heap q).isDead = false := by
  intro q hq
  cases x with
  | t k => have := R_live (h.env k) q hq; rw [h.heap] at this; exact this
  | k v =>
    simp only [X.ev] at hq
    cases v with
    | undef => simp [V.has] at hq
    | _ => rw [closed_has _ _ hx] at hq; cases hq

theorem ahead (h : Inv E n C st a) {pre post : List (Op' × Nat)} {i : Op' × Nat} {K : St → Prop} (hk : wpOpsD P (pre ++ i :: post) st K) (hi : okClass i.1.op i.2 = true) (hix : ∀ x ∈ i.1.op.xs, x.okK = true)
    (hp : ∀ x ∈ pre, okClass x.1.op x.2 = true ∧ okPair x.2 i.2 = true ∧ apartO x.1 i.1 = true) : effG P i.1 st fun s => wpOpsD P (pre ++ post) s K := by
  by_cases hpre : pre = []
  · subst hpre
    exact hk.2
  · have hcls : ∀ x ∈ pre, _ := fun x hx => okPair_spec (hp x hx).2.1
    obtain ⟨x0, hx0⟩ := List.exists_mem_of_ne_nil pre hpre
    have hc : i.2 = 0 ∨ i.2 = 1 ∨ i.2 = 2 := by have := hcls x0 hx0; omega
    obtain ⟨st', hk', hs⟩ := pre_run pre (fun x hx => ⟨by have := hcls x hx; omega, (hp x hx).1⟩) hk
    obtain ⟨v, news, h1, h2⟩ := effG_does hc hi hk'.1 hk'.2
    have henv : ∀ t ∈ i.1.looks, st.env t = st'.env t := fun t ht => (hs.env fun x hx e => (apartO_spec (hp x hx).2.2).1 t e ht).symm
    have hheap : i.2 = 1 → ∀ r, (st.heap r).isDead = false → st'.heap r = st.heap r := fun hi1 r hr => hs.heap (fun x hx => by have := hcls x hx; omega) hr
    refine h2.again st ⟨henv, fun hi1 x hx r hr hl => ?_, fun hi2 => (hs.heap0 fun x hx => by have := hcls x hx; omega).symm⟩ (fun _ _ _ _ => trivial) (fun hi1 r _ hd => ?_) _ ?_
    · have ee : x.ev st' = x.ev st := (ev_same henv x hx).symm
      rw [ee] at hr
      have hlive := h.ground (hheap hi1) hr (h.ev_live (hix x hx))
      exact (hheap hi1 r hlive).symm
    · by_cases hl : (st.heap r).isDead = true
      · exact hl
      · have hl' : (st.heap r).isDead = false := by simpa using hl
        rw [hheap hi1 r hl', hl'] at hd; cases hd
    · exact hs.replay (fun hi0 => h2.pure hi0) (fun hi1 y hy => ((h2.quiet hi1).1 y hy).1) (fun x hx => (hp x hx).2) (fun hi1 y hy => (h2.quiet hi1).2 y.1 (List.mem_map_of_mem hy)) h1

theorem ahead_swap (h : Inv E n C st a) {pre post : List (Op' × Nat)} {x i : Op' × Nat} {K : St → Prop} (hk : wpOpsD P ((pre ++ [x]) ++ i :: post) st K) (hi : okClass i.1.op i.2 = true) (hix : ∀ x ∈ i.1.op.xs, x.okK = true)
    (hp : ∀ x ∈ pre, okClass x.1.op x.2 = true ∧ okPair x.2 i.2 = true ∧ apartO x.1 i.1 = true) (hs : swapOk x i = true) : effG P i.1 st fun s => wpOpsD P ((pre ++ [x]) ++ post) s K := by
  rw [List.append_assoc, wpOpsD_append] at hk
  have hk' : wpOpsD P (pre ++ i :: (x :: post)) st K := wpOpsD_append.2 (wpOpsD_mono hk fun s h' => swap hs h')
  have := ahead h hk' hi hix hp
  refine effG_mono this fun s h' => ?_
  rw [List.append_assoc]; exact h'

theorem opsD_sound {ops : Array Oper} {Q : Exit → Act → World → Prop} {K : St → Prop} (hn : ∀ C' st' a', Inv E n C' st' a' → K st' → Q .normal a' C'.w) :
    ∀ (l : List (Op' × Nat)) (k : Nat) {C : Ctx} {st : St} {a : Act}, okOpers P ops n (l.map (·.1)) (ops.toList.drop k) = true → Inv E n C st a → wpOpsD P l st K → Go.wpOps P ops Q (List.range' k l.length) a C.w
  | [], k, C, st, a, _, h, hk => hn C st a h hk
  | o :: l, k, C, st, a, hok, h, hk => by
    cases hp : ops.toList.drop k with
    | nil => rw [hp] at hok; simp [okOpers] at hok
    | cons p ps =>
      rw [hp] at hok
      simp only [List.map_cons, okOpers, Bool.and_eq_true] at hok
      have hpk : ops[k]? = some p := by
        have : (ops.toList.drop k)[0]? = some p := by rw [hp]; rfl
        simpa using this
      have hps : ops.toList.drop (k + 1) = ps := by
        rw [← List.drop_drop, hp]; rfl
      simp only [List.length_cons, List.range'_succ]
      rw [wpOps_cons]
      refine effG_sound h hpk hok.1 hk.2 fun C' st' a' h' hk' => ?_
      exact opsD_sound hn l (k + 1) (by rw [hps]; exact hok.2) h' hk'

theorem okOpers_get {ops : Array Oper} : ∀ {l : List Op'} {m : List Oper}, okOpers P ops n l m = true → ∀ (i : Nat) p, m[i]? = some p → ∃ o, l[i]? = some o ∧ okOper P ops n o p = true
  | [], [], _, i, p, h => by simp at h
  | [], _ :: _, h, _, _, _ => by simp [okOpers] at h
  | _ :: _, [], h, _, _, _ => by simp [okOpers] at h
  | o :: l, q :: m, h, i, p, hi => by
    simp only [okOpers, Bool.and_eq_true] at h
    cases i with
    | zero => simp at hi; subst hi; exact ⟨o, rfl, h.1⟩
    | succ i => simpa using okOpers_get h.2 i p (by simpa using hi)

theorem mem_afterB {ops : Array Oper} {i : Nat} {o : Oper} (ho : ops[i]? = some o) {e : Nat} : e ∈ afterB ops i ↔ ∃ x ∈ o.after, Region.binds .any x = true ∧ x.on = e := by
  simp only [afterB, ho, List.mem_map, List.mem_filter]
  constructor
  · rintro ⟨x, ⟨h1, h2⟩, h3⟩; exact ⟨x, by simpa using h1, h2, h3⟩
  · rintro ⟨x, h1, h2, h3⟩; exact ⟨x, ⟨by simpa using h1, h2⟩, h3⟩

structure OkD (ops : Array Oper) (l : List (Op' × Nat)) (an : List (List Nat)) : Prop where
  len : l.length = ops.size
  cls : ∀ (i : Nat) o, l[i]? = some o → okClass o.1.op o.2 = true ∧ ∀ x ∈ o.1.op.xs, x.okK = true
  lt : ∀ i, i < ops.size → ∀ e ∈ afterB ops i, e < i
  anc : ∀ i, i < ops.size → ∀ x ∈ an.getD i [], ∃ e ∈ afterB ops i, e = x ∨ x ∈ an.getD e []
  pair : ∀ i, i < ops.size → ∀ x, x < i → x ∉ an.getD i [] → ∃ ox oi, l[x]? = some ox ∧ l[i]? = some oi ∧ ((okPair ox.2 oi.2 = true ∧ apartO ox.1 oi.1 = true) ∨ (x + 1 = i ∧ swapOk ox oi = true))

theorem okD_spec {ops : Array Oper} {l : List (Op' × Nat)} (h : okD ops l = true) : OkD ops l (ancs ops.toList) := by
  unfold okD at h
  simp only [Bool.and_eq_true, List.all_eq_true, List.mem_range, decide_eq_true_eq, beq_iff_eq, Bool.or_eq_true, List.any_eq_true] at h
  obtain ⟨⟨h1, h2⟩, h3⟩ := h
  refine ⟨h2, fun i o ho => ?_, fun i hi e he => (h3 i hi).1.1 e he, fun i hi x hx => ?_, fun i hi x hx hn => ?_⟩
  · obtain ⟨q1, q2⟩ := h1 o (List.mem_of_getElem? ho)
    exact ⟨q1, q2⟩
  · obtain ⟨e, he, h4⟩ := (h3 i hi).1.2 x hx
    exact ⟨e, he, h4.imp id inl_iff.1⟩
  · rcases (h3 i hi).2 x hx with h4 | h4
    · exact absurd (inl_iff.1 h4) hn
    · rcases h4 with h4 | h4
      · unfold pairOk at h4
        split at h4
        · rename_i ox oi e1 e2
          simp only [Bool.and_eq_true] at h4
          exact ⟨ox, oi, e1, e2, .inl h4⟩
        · cases h4
      · unfold swapAt at h4
        simp only [Bool.and_eq_true, beq_iff_eq] at h4
        obtain ⟨e0, h4⟩ := h4
        split at h4
        · rename_i ox oi e1 e2
          exact ⟨ox, oi, e1, e2, .inr ⟨e0, h4⟩⟩
        · cases h4

theorem any_sound {ops : Array Oper} {Q : Exit → Act → World → Prop} {K : St → Prop} (hn : ∀ C' st' a', Inv E n C' st' a' → K st' → Q .normal a' C'.w) {l : List (Op' × Nat)} {an : List (List Nat)} (hd : OkD ops l an)
    (hok : okOpers P ops n (l.map (·.1)) ops.toList = true) : ∀ (fuel : Nat) (rem : List Nat) (listed : Array Bool) {C : Ctx} {st : St} {a : Act}, rem.length = fuel → rem.Pairwise (· < ·) →
      (∀ j, j ∈ rem ↔ j < ops.size ∧ listed.getD j true = false) → (∀ j, j < ops.size → j ∉ rem → listed.getD j false = true) → (∀ j, j < ops.size → j ∉ rem → ∀ x ∈ an.getD j [], x ∉ rem) → listed.size = ops.size →
      Inv E n C st a → wpOpsD P (rem.map fun j => l.getD j default) st K → wpAny P .any ops Q fuel listed a C.w
  | 0, rem, listed, C, st, a, hl, _, hr, _, _, _, h, hk => by
    have : rem = [] := List.eq_nil_of_length_eq_zero hl
    subst this
    refine ⟨?_, hn C st a h hk⟩
    cases hz : Region.ready .any ops listed with
    | nil => rfl
    | cons i is =>
      have hi : i ∈ Region.ready .any ops listed := by rw [hz]; simp
      obtain ⟨h1, o, h2, _⟩ := mem_ready.1 hi
      have := (hr i).2 ⟨(Array.getElem?_eq_some_iff.1 h2).1, h1⟩
      simp at this
  | fuel + 1, rem, listed, C, st, a, hl, hsort, hr, hr', hdown, hsz, h, hk => by
    refine ⟨fun hz => ?_, fun i hi => ?_⟩
    · -- the first is ready
      exfalso
      cases rem with
      | nil => simp at hl
      | cons j js =>
        obtain ⟨hj1, hj2⟩ := (hr j).1 (by simp)
        have : j ∈ Region.ready .any ops listed := by
          refine mem_ready.2 ⟨hj2, ops[j], by simp [hj1], fun e he hb => ?_⟩
          have hlt := hd.lt j hj1 e.on ((mem_afterB (by simp [hj1])).2 ⟨e, he, hb, rfl⟩)
          refine hr' e.on (by omega) fun hm => ?_
          rcases List.mem_cons.1 hm with hm | hm
          · omega
          · have := (List.pairwise_cons.1 hsort).1 e.on hm; omega
        rw [hz] at this; simp at this
    · obtain ⟨h1, o, h2, h3⟩ := mem_ready.1 hi
      have hisz := (Array.getElem?_eq_some_iff.1 h2).1
      have him : i ∈ rem := (hr i).2 ⟨hisz, h1⟩
      obtain ⟨pre, post, rfl⟩ := List.append_of_mem him
      have hfresh : ∀ x ∈ an.getD i [], x ∉ pre ++ i :: post := fun x hx hm => by
        obtain ⟨e, he, h4⟩ := hd.anc i hisz x hx
        obtain ⟨ed, h5, h6, rfl⟩ := (mem_afterB h2).1 he
        have hl' := h3 ed h5 h6
        have hlt := hd.lt i hisz _ he
        have hen : ed.on ∉ pre ++ i :: post := fun hm' => by
          have := ((hr ed.on).1 hm').2
          have hs : ed.on < listed.size := by omega
          simp [hs] at this hl'
          rw [hl'] at this; cases this
        rcases h4 with rfl | h4
        · exact hen hm
        · exact hdown ed.on (by omega) hen x h4 hm
      obtain ⟨oi, ho1, ho2⟩ := okOpers_get hok i o (by simpa using h2)
      obtain ⟨li, hli⟩ : ∃ li, l[i]? = some li := ⟨l[i]'(by rw [hd.len]; exact hisz), by simp⟩
      have e1 : oi = li.1 := by simp [hli] at ho1; exact ho1.symm
      subst e1
      have eli : l.getD i default = li := by simp [List.getD, hli]
      have hprelt : ∀ x ∈ pre, x < i := fun x hx => (List.pairwise_append.1 hsort).2.2 x hx i (by simp)
      rw [List.map_append, List.map_cons, eli] at hk
      have hpair : ∀ j ∈ pre, okClass (l.getD j default).1.op (l.getD j default).2 = true ∧ ((okPair (l.getD j default).2 li.2 = true ∧ apartO (l.getD j default).1 li.1 = true) ∨ (j + 1 = i ∧ swapOk (l.getD j default) li = true)) := fun j hj => by
        have hjn : j ∉ an.getD i [] := fun hm => hfresh j hm (List.mem_append_left _ hj)
        obtain ⟨ox, oi, p1, p2, p3⟩ := hd.pair i hisz j (hprelt j hj) hjn
        rw [hli] at p2; cases p2
        have ej : l.getD j default = ox := by simp [List.getD, p1]
        rw [ej]
        exact ⟨(hd.cls j ox p1).1, p3⟩
      have hah : effG P li.1 st fun s => wpOpsD P ((pre.map fun j => l.getD j default) ++ post.map fun j => l.getD j default) s K := by
        by_cases hall : ∀ j ∈ pre, okPair (l.getD j default).2 li.2 = true ∧ apartO (l.getD j default).1 li.1 = true
        · exact ahead h hk (hd.cls i li hli).1 (hd.cls i li hli).2 (fun x hx => by
            obtain ⟨j, hj, rfl⟩ := List.mem_map.1 hx
            exact ⟨(hpair j hj).1, hall j hj⟩)
        · -- the one that may not be passed else stands right ahead
          obtain ⟨j0, hj0, hno⟩ : ∃ j ∈ pre, ¬ (okPair (l.getD j default).2 li.2 = true ∧ apartO (l.getD j default).1 li.1 = true) := by
            refine Classical.byContradiction fun hc => hall fun j hj => ?_
            exact Classical.byContradiction fun hc2 => hc ⟨j, hj, hc2⟩
          obtain ⟨e0, hsw⟩ := (hpair j0 hj0).2.resolve_left hno
          obtain ⟨pre1, pre2, rfl⟩ := List.append_of_mem hj0
          have hp2 : pre2 = [] := by
            cases pre2 with
            | nil => rfl
            | cons k ks =>
              exfalso
              have h1 := hprelt k (by simp)
              have h2' : j0 < k := by
                have := (List.pairwise_append.1 hsort).1
                exact (List.pairwise_cons.1 (List.pairwise_append.1 this).2.1).1 k (by simp)
              omega
          subst hp2
          have hprelt1 : ∀ j ∈ pre1, j < j0 := fun j hj => (List.pairwise_append.1 (List.pairwise_append.1 hsort).1).2.2 j hj j0 (by simp)
          rw [List.map_append, List.map_cons, List.map_nil] at hk ⊢
          exact ahead_swap h hk (hd.cls i li hli).1 (hd.cls i li hli).2 (fun x hx => by
            obtain ⟨j, hj, rfl⟩ := List.mem_map.1 hx
            have hq := hpair j (by simp [hj])
            refine ⟨hq.1, hq.2.resolve_right fun hc => ?_⟩
            have := hprelt1 j hj
            omega) hsw
      refine effG_sound h h2 ho2 hah fun C' st' a' h' hk' => ?_
      have hni : i ∉ pre ++ post := fun hm => by
        rcases List.mem_append.1 hm with hm | hm
        · exact absurd (hprelt i hm) (Nat.lt_irrefl i)
        · exact absurd ((List.pairwise_cons.1 (List.pairwise_append.1 hsort).2.1).1 i hm) (Nat.lt_irrefl i)
      have hmem : ∀ j, j ∈ pre ++ post ↔ j ∈ pre ++ i :: post ∧ j ≠ i := fun j => by
        simp only [List.mem_append, List.mem_cons]
        constructor
        · intro hm
          refine ⟨hm.elim .inl (fun h => .inr (.inr h)), fun e => hni (by subst e; simpa using hm)⟩
        · rintro ⟨hm | rfl | hm, hne⟩
          · exact .inl hm
          · exact absurd rfl hne
          · exact .inr hm
      refine any_sound hn hd hok fuel (pre ++ post) (listed.setIfInBounds i true) (by simp at hl ⊢; omega) (hsort.sublist (List.Sublist.append_left (List.sublist_cons_self _ _) _)) (fun j => ?_) (fun j hj hjn => ?_) (fun j hj hjn x hx hm => ?_) (by simp [hsz]) h' (by rw [List.map_append]; exact hk')
      · rw [hmem, hr]
        by_cases e : j = i
        · subst e
          have hs : j < listed.size := by omega
          simp [hs]
        · rw [getD_set_ne true (fun e' => e e'.symm)]
          simp [e]
      · by_cases e : j = i
        · subst e
          have hs : j < listed.size := by omega
          simp [hs]
        · rw [getD_set_ne false (fun e' => e e'.symm)]
          exact hr' j hj fun hm => hjn ((hmem j).2 ⟨hm, e⟩)
      · have hm' := ((hmem x).1 hm).1
        by_cases e : j = i
        · subst e; exact hfresh x hx hm'
        · exact hdown j hj (fun hm2 => hjn ((hmem j).2 ⟨hm2, e⟩)) x hx hm'

theorem regD (hm : P.follows .mixedOrders = true) : RegD P := by
  intro E n C st a ops id dr Q K l hn hok hD h hk
  have hd := okD_spec hD
  cases dr with
  | false =>
    refine wp_region ?_
    rw [List.range_eq_range', ← hd.len]
    exact opsD_sound hn l 0 (by simpa using hok) h hk
  | true =>
    refine wp_region_any hm ?_
    have h' := h.ext (w' := { C.w with drawn := C.w.drawn + 1 }) (Ext.drew C.w)
    have hmap : (List.range ops.size).map (fun j => l.getD j default) = l := by
      apply List.ext_getElem?
      intro i
      by_cases hi : i < ops.size
      · have hi' : i < l.length := by rw [hd.len]; exact hi
        simp [List.getElem?_range hi, List.getD, hi']
      · rw [List.getElem?_eq_none (by simpa using hi), List.getElem?_eq_none (by rw [hd.len]; omega)]
    exact any_sound hn hd hok ops.size (List.range ops.size) (Array.replicate ops.size false) (by simp) List.pairwise_lt_range (fun j => by
      simp only [List.mem_range]
      constructor
      · intro hj; exact ⟨hj, by simp [hj]⟩
      · exact fun hj => hj.1) (fun j hj hjn => absurd (List.mem_range.2 hj) hjn) (fun j hj hjn => absurd (List.mem_range.2 hj) hjn) (by simp) h' (by rw [hmap]; exact hk)

end Go.Ab

namespace Go.Ab
open Go

structure FnT where
  k : Nat
  pins : List Nat
  ns : List Nat
  rvs : List RV
  body : C

def okFn (P : Program) (fn : Func) (t : FnT) : Bool :=
  match fn.body with
  | some code => okC P ⟨fn.ntmps, t.pins, false⟩ t.body code && okRVs P t.rvs fn.results.toList && decide (t.k ≤ fn.ntmps) && t.pins.all (fun i => decide (i < t.k)) && nodupB t.ns
  | none => false

def iosOk (pins : List Nat) : Nat → List V → Bool
  | _, [] => true
  | i, .io _ :: l => inl pins i && iosOk pins (i + 1) l
  | i, _ :: l => iosOk pins (i + 1) l

theorem iosOk_get {pins : List Nat} : ∀ {l : List V} {i : Nat}, iosOk pins i l = true → ∀ (j : Nat) cs, l[j]? = some (.io cs) → i + j ∈ pins
  | [], _, _, j, cs, h => by simp at h
  | v :: l, i, h, j, cs, hj => by
    have hrest : iosOk pins (i + 1) l = true := by
      cases v <;> simp only [iosOk, Bool.and_eq_true] at h <;> first | exact h.2 | exact h
    cases j with
    | zero =>
      simp at hj; subst hj
      simp only [iosOk, Bool.and_eq_true] at h
      simpa using inl_iff.1 h.1
    | succ j =>
      have := iosOk_get hrest j cs (by simpa using hj)
      rw [show i + (j + 1) = i + 1 + j by omega]; exact this

theorem callsV_fn {P : Program} (hD : RegD P) {f : FuncId} {fn : Func} (hf : P.funcs[f]? = some fn) {t : FnT} (hok : okFn P fn t = true) {args : List V} {res : V} {outs : List V} {fr : Bool}
    (hl : args.length = t.k) (hio : iosOk t.pins 0 args = true) (hsh : args.map V.sh = args) (hwp : wpC P t.body (St.enter args t.ns) fun e st => (e = .normal ∨ e = .ret) ∧ Leave args t.rvs res outs fr st) (hnm : args.all V.noMap = true) : CallsV P f args res outs fr := by
  unfold okFn at hok
  cases hb : fn.body with
  | none => rw [hb] at hok; cases hok
  | some code =>
    rw [hb] at hok
    simp only [Bool.and_eq_true, decide_eq_true_eq, List.all_eq_true] at hok
    obtain ⟨⟨⟨⟨h1, h2⟩, h3⟩, h4⟩, h5⟩ := hok
    exact callsV_of hD hf hb h1 h2 (hl ▸ h3) (fun i hi => by rw [hl]; exact h4 i hi) (fun i cs hi => by simpa using iosOk_get hio i cs hi) hsh hnm (nodupB_iff h5) hwp

end Go.Ab

namespace Go.Ab
open Go

structure IfLt (a b : Int) (K : Bool → Prop) : Prop where
  h : K (decide (a < b))
structure IfLe (a b : Int) (K : Bool → Prop) : Prop where
  h : K (decide (a ≤ b))
structure IfEq (a b : Int) (K : Bool → Prop) : Prop where
  h : K (a == b)
structure IfStr (a b : ByteArray) (K : Bool → Prop) : Prop where
  h : K (a.toList == b.toList)
section
variable {a b : Int} {K : Bool → Prop}
theorem IfLt.t (h : a < b) (k : K true) : IfLt a b K := ⟨by simpa [h] using k⟩
theorem IfLt.f (h : b ≤ a) (k : K false) : IfLt a b K := ⟨by have : ¬ a < b := by omega
                                                             simpa [this] using k⟩
theorem IfLt.split (y : a < b → K true) (n : b ≤ a → K false) : IfLt a b K := by
  by_cases h : a < b
  · exact .t h (y h)
  · exact .f (by omega) (n (by omega))
theorem IfLe.t (h : a ≤ b) (k : K true) : IfLe a b K := ⟨by simpa [h] using k⟩
theorem IfLe.f (h : b < a) (k : K false) : IfLe a b K := ⟨by have : ¬ a ≤ b := by omega
                                                             simpa [this] using k⟩
theorem IfLe.split (y : a ≤ b → K true) (n : b < a → K false) : IfLe a b K := by
  by_cases h : a ≤ b
  · exact .t h (y h)
  · exact .f (by omega) (n (by omega))
theorem IfEq.t (h : a = b) (k : K true) : IfEq a b K := ⟨by simpa [h] using k⟩
theorem IfEq.f (h : a ≠ b) (k : K false) : IfEq a b K := ⟨by have : (a == b) = false := by simpa using h
                                                             rw [this]; exact k⟩
theorem IfEq.split (y : a = b → K true) (n : a ≠ b → K false) : IfEq a b K := by
  by_cases h : a = b
  · exact .t h (y h)
  · exact .f h (n h)
theorem IfStr.split {a b : ByteArray} (y : a = b → K true) (n : a ≠ b → K false) : IfStr a b K := by
  by_cases h : a = b
  · subst h; exact ⟨by simpa using y rfl⟩
  · refine ⟨?_⟩
    have : (a.toList == b.toList) = false := by
      rw [beq_eq_false_iff_ne]
      intro e
      apply h
      have e2 : a.data.toList = b.data.toList := by simpa [ByteArray.toList_eq] using e
      cases a; cases b
      simp only [ByteArray.mk.injEq]
      exact Array.ext' e2
    rw [this]; exact n h
end

structure Lt {α : Type} (p : Unit → Prop) (x : Unit → α) (K : α → Prop) : Prop where
  need : p ()
  go : K (x ())
theorem Lt.all {α : Type} {p : Unit → Prop} {x : Unit → α} {K : α → Prop} (hp : p ()) (k : ∀ v, v = x () → K v) : Lt p x K := ⟨hp, k _ rfl⟩
theorem Lt.to {α : Type} {p : Unit → Prop} {x : Unit → α} {K : α → Prop} {v : α} (hp : p ()) (h : x () = v) (k : K v) : Lt p x K := ⟨hp, h ▸ k⟩

def vw0 (st : St) (n : Nat) (v : V) : V :=
  match v with
  | .sl _ s rows => .sl false s rows
  | .sref r _ _ => match st.heap r with | .rows s rs => .sl false s rs | _ => .undef
  | v => (frz st n v).sh
def vw (st : St) (v : V) : V :=
  match v with
  | .agg cs => .agg (cs.map (vw0 st 3))
  | v => vw0 st 4 v
def nd0 (st : St) (v : V) (K : Prop) : Prop :=
  match v with
  | .sl _ _ rows => V.shR rows = rows ∧ K
  | .sref r i m => match st.heap r with | .rows _ rs => (i = 0 ∧ m = rs.length ∧ V.shR rs = rs) ∧ K | _ => False
  | _ => K
def ndL (st : St) : List V → Prop → Prop
  | [], K => K
  | v :: l, K => nd0 st v (ndL st l K)
def nd (st : St) (v : V) (K : Prop) : Prop :=
  match v with
  | .agg cs => ndL st cs K
  | v => nd0 st v K
def needs (st : St) : List Pm → Prop
  | [] => True
  | p :: l => nd st (p.x.ev st) (needs st l)

structure CallQ (P : Program) (f : FuncId) (need : Unit → Prop) (as : List V) (asx : Unit → List V) (plain : Bool) (K : V → Prop) : Prop where
  h : (need () ∧ ∃ (res : V) (outs : List V) (fr : Bool), CallsV P f as res outs fr ∧ (plain = true ∨ fr = true) ∧ K res) ∨
    ∃ (res : V) (outs : List V) (fr : Bool), CallsV P f (asx ()) res outs fr ∧ (plain = true ∨ fr = true) ∧ K res
theorem CallQ.to {P : Program} {f : FuncId} {need : Unit → Prop} {as as' : List V} {asx : Unit → List V} {plain : Bool} {K : V → Prop} {res : V} {outs : List V} {fr : Bool} (hc : CallsV P f as' res outs fr) (h : as = as') (hp : plain = true ∨ fr = true) (k : K res)
    (hn : need () := by first | exact True.intro | exact ⟨rfl, True.intro⟩ | exact ⟨rfl, rfl, True.intro⟩) : CallQ P f need as asx plain K :=
  ⟨.inl ⟨hn, _, _, _, h ▸ hc, hp, k⟩⟩
theorem CallQ.raw {P : Program} {f : FuncId} {need : Unit → Prop} {as as' : List V} {asx : Unit → List V} {plain : Bool} {K : V → Prop} {res : V} {outs : List V} {fr : Bool} (hc : CallsV P f as' res outs fr) (h : asx () = as') (hp : plain = true ∨ fr = true) (k : K res) : CallQ P f need as asx plain K :=
  ⟨.inr ⟨_, _, _, h ▸ hc, hp, k⟩⟩

def Pm.isRo : Pm → Bool
  | .ro _ => true
  | _ => false

def binQ (op : BinOp) (k : IntKind) (a b : Int) (K : V → Prop) : Prop :=
  match op with
  | .add => Lt (fun _ => True) (fun _ => k.wrap (a + b)) fun c => K (.int k c)
  | .sub => Lt (fun _ => True) (fun _ => k.wrap (a - b)) fun c => K (.int k c)
  | .mul => Lt (fun _ => True) (fun _ => k.wrap (a * b)) fun c => K (.int k c)
  | .quo => Lt (fun _ => b ≠ 0) (fun _ => k.wrap (a.tdiv b)) fun c => K (.int k c)
  | .rem => Lt (fun _ => b ≠ 0) (fun _ => a.tmod b) fun c => K (.int k c)
  | .eql => IfEq a b fun t => K (.bool t)
  | .neq => IfEq a b fun t => K (.bool !t)
  | .lss => IfLt a b fun t => K (.bool t)
  | .leq => IfLe a b fun t => K (.bool t)
  | .gtr => IfLt b a fun t => K (.bool t)
  | .geq => IfLe b a fun t => K (.bool t)
  | _ => False

def newQ (s : Nat) (rows : List (List V)) (mode : Option Nat) (d : Option Nat) (st : St) (K : St → Prop) : Prop :=
  match mode with
  | none => K (st.put d (.sl true s rows))
  | some r => (st.heap r).isDead = true ∧ Lt (fun _ => True) (fun _ => rows.length) fun n => K ((st.set r (.rows s rows)).put d (.sref r 0 n))

structure AppL (n bytes : Nat) (rs ys : Unit → List (List V)) (K : List (List V) → Nat → Prop) : Prop where
  need : n = (rs ()).length ∧ (n + (ys ()).length) * bytes ≤ 140737488355328
  go : K (rs () ++ ys ()) (n + (ys ()).length)
theorem AppL.to {n bytes : Nat} {rs ys : List (List V)} {K : List (List V) → Nat → Prop} (h1 : n = rs.length) (h2 : (rs.length + ys.length) * bytes ≤ 140737488355328)
    (k : ∀ v m, v = rs ++ ys → m = v.length → v.length = rs.length + ys.length → K v m) : AppL n bytes (fun _ => rs) (fun _ => ys) K := by
  subst h1
  exact ⟨⟨rfl, h2⟩, k _ _ rfl (by simp) (by simp)⟩

def appQ (s bytes : Nat) (x : V) (ys : List (List V)) (mode : Option Nat) (d : Option Nat) (st : St) (K : St → Prop) : Prop :=
  match x with
  | .nils _ => AppL 0 bytes (fun _ => []) (fun _ => ys) fun rows n => match mode with
    | none => K (st.put d (.sl true s rows))
    | some r => (st.heap r).isDead = true ∧ K ((st.set r (.rows s rows)).put d (.sref r 0 n))
  | .sref r i n => match st.heap r with
    | .rows s' rs => s' = s ∧ i = 0 ∧ AppL n bytes (fun _ => rs) (fun _ => ys) fun rs' m => match mode with
      | none => K ((st.kills [r]).put d (.sl true s rs'))
      | some r' => r' = r ∧ K (((st.kills [r]).set r (.rows s rs')).put d (.sref r 0 m))
    | _ => False
  | _ => False

def callQ (P : Program) (f : FuncId) (args : List Pm) (objs : List Nat) (d : Option Nat) (st : St) (K : St → Prop) : Prop :=
  match args.all Pm.isRo with
  | true => nodupB objs = true ∧ objs.all (fun r => (st.heap r).isDead) = true ∧ args.all (·.ok st st) = true ∧ CallQ P f (fun _ => needs st args) (args.map fun p => vw st (p.x.ev st)) (fun _ => args.map (·.val st st)) (args.all (·.plain st)) fun res => K ((st.sets (thaw res objs).2.2).put d (thaw res objs).1)
  | false => call P f args objs d st K

structure CanQ (P : Program) (f : FuncId) (K : Prop) : Prop where
  c : callable P f = true
  k : K
theorem CanQ.to {P : Program} {f : FuncId} {K : Prop} (c : callable P f = true) (k : K) : CanQ P f K := ⟨c, k⟩

structure IfNil (rows : List (List V)) (K : Bool → Prop) : Prop where
  h : (rows = [] → K true ∧ K false) ∧ (rows ≠ [] → K false)
theorem IfNil.split {rows : List (List V)} {K : Bool → Prop} (y : rows = [] → K true) (n : K false) : IfNil rows K := ⟨fun e => ⟨y e, n⟩, fun _ => n⟩
theorem IfNil.f {rows : List (List V)} {K : Bool → Prop} (h : rows ≠ []) (n : K false) : IfNil rows K := ⟨fun e => absurd e h, fun _ => n⟩

structure MapQ (need : Unit → Prop) (m : Unit → List V × List V) (K : List V → List V → Prop) : Prop where
  n : need ()
  h : K (m ()).1 (m ()).2
theorem MapQ.to {need : Unit → Prop} {m : Unit → List V × List V} {K : List V → List V → Prop} {ks vs : List V} (hn : need ()) (e : m () = (ks, vs)) (k : K ks vs) : MapQ need m K := ⟨hn, by rw [e]; exact k⟩

structure EqQ (ks : List Nat) (l m : List V) (K : Bool → Prop) : Prop where
  h : ∃ b, eqK ks l m = some b ∧ K b
def eqsP : List V → List V → Prop
  | .int _ a :: l, .int _ b :: m => a = b ∧ eqsP l m
  | _, _ => True
def intsB : List Nat → List V → List V → Bool
  | 0 :: ks, .int k _ :: l, .int k' _ :: m => decide (k = k') && intsB ks l m
  | [], [], [] => true
  | _, _, _ => false
theorem eqK_ints : ∀ {ks : List Nat} {l m : List V}, intsB ks l m = true → ∃ b, eqK ks l m = some b ∧ (b = true ↔ eqsP l m)
  | [], [], [], _ => ⟨true, rfl, by simp [eqsP]⟩
  | 0 :: ks, .int k a :: l, .int k' b :: m, h => by
    simp only [intsB, Bool.and_eq_true, decide_eq_true_eq] at h
    obtain ⟨rfl, h⟩ := h
    obtain ⟨c, h1, h2⟩ := eqK_ints h
    refine ⟨(a == b) && c, by simp [eqK, eqC, h1], ?_⟩
    simp only [Bool.and_eq_true, beq_iff_eq, eqsP, h2]
theorem EqQ.ints {ks : List Nat} {l m : List V} {K : Bool → Prop} (h : intsB ks l m = true) (y : eqsP l m → K true) (n : ¬ eqsP l m → K false) : EqQ ks l m K := by
  obtain ⟨b, h1, h2⟩ := eqK_ints h
  refine ⟨b, h1, ?_⟩
  cases b with
  | true => exact y (h2.1 rfl)
  | false => exact n fun hp => by have := h2.2 hp; cases this

def mgrow (g k n : Int) (ks vs : List V) : List V × List V := mput (.int .i64 g) (.own 2 (((rows2 (mfind (.int .i64 g) ks vs)).getD []) ++ [[.int .i64 k, .int .i64 n]])) ks vs

def effQ (P : Program) (o : O) (d : Option Nat) (st : St) (K : St → Prop) : Prop :=
  match o with
  | .pick c a b => match c.ev st with
    | .bool true => K (st.put d (a.ev st))
    | .bool false => K (st.put d (b.ev st))
    | _ => False
  | .iaddr s none x i => match i.ev st with
    | .int _ n => match x.ev st with
      | .sl _ s' rows => Lt (fun _ => s' = s ∧ 0 ≤ n ∧ n.toNat < rows.length) (fun _ => rows.getD n.toNat []) fun row => K (st.put d (.cp row 0))
      | .sref r j m => match st.heap r with
        | .rows s' _ => Lt (fun _ => s' = s ∧ 0 ≤ n ∧ n.toNat < m) (fun _ => j + n.toNat) fun k => K (st.put d (.rptr r k 0))
        | _ => False
      | _ => False
    | _ => False
  | .iaddr s (some l) x i => match i.ev st with
    | .int _ n => Lt (fun _ => 0 ≤ n ∧ n.toNat < l) (fun _ => n.toNat) fun m => match x.ev st with
      | .ptr r o => K (st.put d (.ptr r (o + m * s)))
      | .rptr r j o => K (st.put d (.rptr r j (o + m * s)))
      | .cp cs o => K (st.put d (.cp cs (o + m * s)))
      | _ => False
    | _ => False
  | .load agg n x => match x.ev st with
    | .ptr r off => match st.heap r with
      | .box cs => off + n ≤ cs.length ∧ K (st.put d (pickc agg n off cs))
      | _ => False
    | .rptr r i off => match st.heap r with
      | .rows s rs => Lt (fun _ => off + n ≤ s) (fun _ => rs.getD i []) fun row => K (st.put d (pickc agg n off row))
      | _ => False
    | .cp cs off => off + n ≤ cs.length ∧ K (st.put d (pickc agg n off cs))
    | _ => False
  | .store n x v => (v.ev st).val = true ∧ (v.ev st).cells.length = n ∧ match x.ev st with
    | .ptr r off => match st.heap r with
      | .box cs => off + n ≤ cs.length ∧ K ((st.set r (.box (setR cs off (v.ev st).cells))).put d .undef)
      | _ => False
    | .rptr r i off => match st.heap r with
      | .rows s rs => Lt (fun _ => V.closedL (v.ev st).cells = true ∧ off + n ≤ s) (fun _ => rs.set i (setR (rs.getD i []) off (v.ev st).cells)) fun rs' => K ((st.set r (.rows s rs')).put d .undef)
      | _ => False
    | _ => False
  | .bin op x y => match x.ev st, y.ev st with
    | .int k a, .int k' b => k = k' ∧ binQ op k a b fun v => K (st.put d v)
    | _, _ => False
  | .eqs ng x y => match x.ev st, y.ev st with
    | .str a, .str b => IfStr a b fun t => K (st.put d (.bool (bif ng then !t else t)))
    | _, _ => False
  | .eqa ng ks x y => match x.ev st, y.ev st with
    | .agg l, .agg m => EqQ ks l m fun t => K (st.put d (.bool (bif ng then !t else t)))
    | _, _ => False
  | .max x y => match x.ev st, y.ev st with
    | .int k a, .int k' b => k = k' ∧ IfLt a b fun t => K (st.put d (.int k (bif t then b else a)))
    | _, _ => False
  | .min x y => match x.ev st, y.ev st with
    | .int k a, .int k' b => k = k' ∧ IfLt b a fun t => K (st.put d (.int k (bif t then b else a)))
    | _, _ => False
  | .len x => match x.ev st with
    | .sl _ _ rows => Lt (fun _ => True) (fun _ => (rows.length : Int)) fun n => K (st.put d (.int .i64 n))
    | .sref _ _ n => Lt (fun _ => True) (fun _ => (n : Int)) fun n => K (st.put d (.int .i64 n))
    | .nils _ => K (st.put d (.int .i64 0))
    | _ => False
  | .app s bytes x y mode => match y.ev st with
    | .sl _ s' ys => s' = s ∧ appQ s bytes (x.ev st) ys mode d st K
    | .nils _ => appQ s bytes (x.ev st) [] mode d st K
    | .sref r j m => match st.heap r with
      | .rows s' rs => s' = s ∧ Lt (fun _ => True) (fun _ => (rs.drop j).take m) fun ys => appQ s bytes (x.ev st) ys mode d st K
      | _ => False
    | _ => False
  | .slice s x lo hi => match x.ev st, (match lo with | none => V.int .i64 0 | some l => l.ev st) with
    | .sl f s' rows, .int _ l => match hi with
      | none => s' = s ∧ Lt (fun _ => 0 ≤ l ∧ l ≤ rows.length) (fun _ => rows.drop l.toNat) fun rows => K (st.put d (.sl f s rows))
      | some h => match h.ev st with
        | .int _ h => s' = s ∧ Lt (fun _ => 0 ≤ l ∧ l ≤ h ∧ h ≤ rows.length) (fun _ => (rows.take h.toNat).drop l.toNat) fun rows => K (st.put d (.sl f s rows))
        | _ => False
    | .sref r i n, .int _ l => match st.heap r, (match hi with | none => V.int .i64 n | some h => h.ev st) with
      | .rows s' _, .int _ h => s' = s ∧ Lt (fun _ => 0 ≤ l ∧ l ≤ h ∧ h ≤ n) (fun _ => (i + l.toNat, h.toNat - l.toNat)) fun p => K (st.put d (.sref r p.1 p.2))
      | _, _ => False
    | _, _ => False
  | .mks s bytes z n mode => match n.ev st with
    | .int .i64 n => Lt (fun _ => 0 ≤ n ∧ n ≤ 140737488355328 ∧ bytes * n ≤ 140737488355328) (fun _ => List.replicate n.toNat z) fun rows => newQ s rows mode d st K
    | _ => False
  | .call f args objs => callQ P f args objs d st K
  | .cut s x hi mode => match x.ev st, hi.ev st with
    | .sref r i n, .int _ h => match st.heap r with
      | .rows s' rs => s' = s ∧ i = 0 ∧ Lt (fun _ => n = rs.length ∧ 0 ≤ h ∧ h.toNat ≤ n) (fun _ => (rs.take h.toNat, h.toNat)) fun p => match mode with
        | none => K ((st.kills [r]).put d (.sl true s p.1))
        | some r' => r' = r ∧ K (((st.kills [r]).set r (.rows s p.1)).put d (.sref r 0 p.2))
      | _ => False
    | _, _ => False
  | .callp f args cands => match firstDead st cands with
    | some r => callQ P f args [r] d st K
    | none => False
  | .calln x args objs => match x.ev st with
    | .fn f first caps => CanQ P f (V.closedL first = true ∧ V.closedL caps = true ∧ callQ P f (first.map (fun v => .ro (.k v)) ++ args ++ caps.map fun v => .ro (.k v)) objs d st K)
    | _ => False
  | .niltest ng x => match x.ev st with
    | .sl _ _ rows => IfNil rows fun t => K (st.put d (.bool (bif ng then !t else t)))
    | .nils _ => IfNil [] fun t => K (st.put d (.bool (bif ng then !t else t)))
    | .sref _ _ _ => IfNil [] fun t => K (st.put d (.bool (bif ng then !t else t)))
    | _ => False
  | .mget kd z x k => match x.ev st with
    | .mp r => match st.heap r with
      | .mp ks vs => Lt (fun _ => kd.keyLike (k.ev st) = true ∧ ∀ y ∈ ks, kd.keyLike y = true) (fun _ => match mfind (k.ev st) ks vs with | some v => v.unown | none => z) fun v => K (st.put d v)
      | _ => False
    | _ => False
  | .mlen x => match x.ev st with
    | .mp r => match st.heap r with
      | .mp ks _ => Lt (fun _ => True) (fun _ => (ks.length : Int)) fun n => K (st.put d (.int .i64 n))
      | _ => False
    | _ => False
  | .mset kd x k v => match x.ev st with
    | .mp r => match st.heap r with
      | .mp ks vs => MapQ (fun _ => kd.keyLike (k.ev st) = true ∧ (∀ y ∈ ks, kd.keyLike y = true) ∧ (v.ev st).closed = true ∧ (v.ev st).val = true) (fun _ => mput (k.ev st) (v.ev st) ks vs) fun ks vs => K ((st.set r (.mp ks vs)).put d .undef)
      | _ => False
    | _ => False
  | .mput f x g k n => match x.ev st, g.ev st, k.ev st, n.ev st with
    | .mp r, .int .i64 g, .int .i64 k, .int .i64 n => match st.heap r with
      | .mp ks vs => MapQ (fun _ => PutC P f ∧ (∀ y ∈ ks, (V.int .i64 0).keyLike y = true) ∧ ∃ rows, rows2 (mfind (.int .i64 g) ks vs) = some rows ∧ (rows.length + 1) * 16 ≤ 140737488355328) (fun _ => mgrow g k n ks vs) fun ks vs => K ((st.set r (.mp ks vs)).put d .undef)
      | _ => False
    | _, _, _, _ => False
  | o => eff P o d st K

theorem newQ_sound {s : Nat} {rows : List (List V)} {mode d : Option Nat} {st : St} {K K' : St → Prop} (h : newQ s rows mode d st K) (hK : ∀ s, K s → K' s) : newSl s rows mode d st K' := by
  unfold newQ at h
  unfold newSl
  split
  · exact hK _ h
  · obtain ⟨a, b⟩ := h
    exact ⟨a, hK _ b.go⟩

theorem appQ_sound {P : Program} {s bytes : Nat} {x y : X} {ys : List (List V)} {mode d : Option Nat} {st : St} {K K' : St → Prop} (hy : srcRows st s (y.ev st) = some ys) (h : appQ s bytes (x.ev st) ys mode d st K) (hK : ∀ s, K s → K' s) :
    eff P (.app s bytes x y mode) d st K' := by
  simp only [eff, hy]
  unfold appQ at h
  split at h
  · rename_i hx
    rw [hx]
    have h1 := h.need
    have h2 := h.go
    simp only [Nat.zero_add, List.nil_append] at h1 h2
    refine ⟨h1.2, ?_⟩
    unfold newSl
    cases mode with
    | none => exact hK _ h2
    | some r => exact ⟨h2.1, hK _ h2.2⟩
  · rename_i r i n hx
    rw [hx]
    split at h
    · rename_i s' rs hr
      simp only [hr]
      obtain ⟨h1, h2, h3⟩ := h
      refine ⟨h1, h2, h3.need.1, h3.need.2, ?_⟩
      have h4 := h3.go
      cases mode with
      | none => exact hK _ h4
      | some r' => exact ⟨h4.1, hK _ h4.2⟩
    · exact h.elim
  · exact h.elim

theorem all_ro {args : List Pm} (h : args.all Pm.isRo = true) (st : St) :
    args.flatMap (·.gone st) = [] ∧ args.flatMap (·.box st) = [] ∧ (∀ (outs : List V) (s : St), backs st args outs s = s) ∧ (∀ s : St, blanks st args s = s) ∧ (∀ outs : List V, outsOk st args outs = true) ∧ args.any Pm.isIo = false := by
  induction args with
  | nil => exact ⟨rfl, rfl, fun outs s => by cases outs <;> rfl, fun s => rfl, fun outs => by cases outs <;> rfl, rfl⟩
  | cons p l ih =>
    simp only [List.all_cons, Bool.and_eq_true] at h
    obtain ⟨h1, h2, h3, h4, h5, h6⟩ := ih h.2
    cases p with
    | ro x =>
      refine ⟨by rw [List.flatMap_cons, h1]; rfl, by rw [List.flatMap_cons, h2]; rfl, fun outs s => ?_, fun s => ?_, fun outs => ?_, by simp [Pm.isIo, h6]⟩
      · cases outs with
        | nil => rfl
        | cons o os => exact h3 os s
      · exact h4 s
      · cases outs with
        | nil => rfl
        | cons o os => exact h5 os
    | io x n => simp [Pm.isRo] at h
    | mv x s => simp [Pm.isRo] at h

theorem vw0_eq {st : St} {n : Nat} {v : V} {K : Prop} (h : nd0 st v K) : vw0 st (n + 1) v = (frz st (n + 1) v).sh ∧ K := by
  unfold nd0 at h
  split at h
  · refine ⟨?_, h.2⟩
    simp only [vw0, frz, V.sh, h.1]
  · split at h
    · rename_i hr
      refine ⟨?_, h.2⟩
      obtain ⟨⟨rfl, rfl, h3⟩, _⟩ := h
      simp only [vw0, frz, hr, List.drop_zero, List.take_length, V.sh, h3]
    · exact h.elim
  · rename_i h1 h2
    refine ⟨?_, h⟩
    cases v <;> first | rfl | exact (h1 _ _ _ rfl).elim | exact (h2 _ _ _ rfl).elim

theorem ndL_eq {st : St} {n : Nat} : ∀ {l : List V} {K : Prop}, ndL st l K → l.map (vw0 st (n + 1)) = V.shL (l.map (frz st (n + 1))) ∧ K
  | [], _, h => ⟨rfl, h⟩
  | v :: l, K, h => by
    obtain ⟨h1, h2⟩ := vw0_eq (n := n) (show nd0 st v (ndL st l K) from h)
    obtain ⟨h3, h4⟩ := ndL_eq (n := n) h2
    exact ⟨by simp only [List.map_cons, V.shL, h1, h3], h4⟩

theorem vw_eq {st : St} {v : V} {K : Prop} (h : nd st v K) : vw st v = (frz st 4 v).sh ∧ K := by
  unfold nd at h
  split at h
  · obtain ⟨h1, h2⟩ := ndL_eq (n := 2) h
    exact ⟨by simp only [vw, frz, V.sh, h1], h2⟩
  · rename_i hne
    obtain ⟨h1, h2⟩ := vw0_eq (n := 3) h
    refine ⟨?_, h2⟩
    rw [← h1]
    unfold vw
    split
    · exact absurd rfl (hne _)
    · rfl

theorem needs_eq {st : St} : ∀ {args : List Pm}, args.all Pm.isRo = true → needs st args → (args.map fun p => vw st (p.x.ev st)) = args.map (·.val st st)
  | [], _, _ => rfl
  | p :: l, hro, h => by
    simp only [List.all_cons, Bool.and_eq_true] at hro
    obtain ⟨h1, h2⟩ := vw_eq (show nd st (p.x.ev st) (needs st l) from h)
    simp only [List.map_cons, needs_eq hro.2 h2]
    congr 1
    cases p with
    | ro x => exact h1
    | io x n => simp [Pm.isRo] at hro
    | mv x s => simp [Pm.isRo] at hro

theorem callQ_sound {P : Program} {f : FuncId} {args : List Pm} {objs : List Nat} {d : Option Nat} {st : St} {K K' : St → Prop} (h : callQ P f args objs d st K) (hK : ∀ s, K s → K' s) : call P f args objs d st K' := by
  unfold callQ at h
  split at h
  · rename_i hro
    obtain ⟨h1, h2, h3, h4, h5, h6⟩ := all_ro hro st
    obtain ⟨a, b, c, h⟩ := h
    have h : ∃ (res : V) (outs : List V) (fr : Bool), CallsV P f (args.map (·.val st st)) res outs fr ∧ (args.all (·.plain st) = true ∨ fr = true) ∧ K ((st.sets (thaw res objs).2.2).put d (thaw res objs).1) := by
      rcases h.h with ⟨hnd, res, outs, fr, hc, hp, k⟩ | h
      · exact ⟨res, outs, fr, by rw [needs_eq hro hnd] at hc; exact hc, hp, k⟩
      · exact h
    obtain ⟨res, outs, fr, hc, hp, k⟩ := h
    refine ⟨by rw [h1, h2]; rfl, a, b, ?_, res, outs, fr, ?_, ?_, h5 _, ?_⟩
    · rw [h1, h2]; exact c
    · rw [h1, h2]; exact hc
    · rw [h1, h2]; exact hp.imp id fun e => ⟨e, h6⟩
    · rw [h3, h4, h1]; exact hK _ k
  · exact call_mono h hK
end Go.Ab

namespace Go.Ab
open Go

variable {P : Program} {d : Option Nat} {st : St} {K K' : St → Prop}

theorem binQ_sound {op : BinOp} {k : IntKind} {a b : Int} {K : V → Prop} {K' : V → Prop} (h : binQ op k a b K) (hK : ∀ s, K s → K' s) : binI op k a b K' := by
  cases op <;> first | exact h.elim | exact hK _ h.go | exact hK _ h.h | exact ⟨h.need, hK _ h.go⟩

theorem effQ_sound {o : O} (h : effQ P o d st K) (hK : ∀ s, K s → K' s) : eff P o d st K' := by
  cases o with
  | mv x => exact hK _ h
  | pick c a b =>
    simp only [effQ, eff] at h ⊢
    split at h
    · rename_i h1
      simp only [h1]
      split
      · rename_i e1 e2 e3; cases e1; simp only [cond_true]; rw [e2] at h; exact hK _ h
      · rename_i e1 _; cases e1; exact ⟨fun _ => hK _ h, (fun e => by cases e)⟩
      · simp_all
    · rename_i h1
      simp only [h1]
      split
      · rename_i e1 e2 e3; cases e1; simp only [cond_false]; rw [e3] at h; exact hK _ h
      · rename_i e1 _; cases e1; exact ⟨(fun e => by cases e), fun _ => hK _ h⟩
      · simp_all
    · exact h.elim
  | box x r => exact ⟨h.1, h.2.1, hK _ h.2.2⟩
  | alloc z r objs => exact ⟨h.1, h.2.1, hK _ h.2.2⟩
  | nil s r => exact ⟨h.1, hK _ h.2⟩
  | build z parts => exact ⟨h.1, hK _ h.2⟩
  | bsl s parts mode =>
    simp only [effQ, eff] at h ⊢
    split
    · cases mode with
      | none => exact hK _ h
      | some r => exact ⟨h.1, hK _ h.2⟩
    · rename_i hne
      split at h
      · exact absurd rfl hne
      · exact ⟨h.1, newSl_mono h.2 hK⟩
  | load agg n x =>
    simp only [effQ, eff] at h ⊢
    repeat' split at h
    all_goals first | exact h.elim | skip
    · rename_i h1 _ _ h2; (try simp only [h1, h2]); exact ⟨h.1, hK _ h.2⟩
    · rename_i h1 _ _ _ h2; (try simp only [h1, h2]); exact ⟨h.need, hK _ h.go⟩
    · rename_i h1; (try simp only [h1]); exact ⟨h.1, hK _ h.2⟩
  | store n x v =>
    simp only [effQ, eff] at h ⊢
    obtain ⟨a1, a2, h⟩ := h
    refine ⟨a1, a2, ?_⟩
    repeat' split at h
    all_goals first | exact h.elim | skip
    · rename_i h1 _ _ h2; (try simp only [h1, h2]); exact ⟨h.1, hK _ h.2⟩
    · rename_i h1 _ _ _ h2; (try simp only [h1, h2]); exact ⟨h.need.1, h.need.2, hK _ h.go⟩
  | faddr off x =>
    simp only [effQ, eff] at h ⊢
    split at h
    all_goals first | exact h.elim | (rename_i h1; (try simp only [h1]); exact hK _ h)
  | iaddr s len x i =>
    cases len with
    | none =>
      simp only [effQ, eff] at h ⊢
      repeat' split at h
      all_goals first | exact h.elim | skip
      · rename_i h1 _ _ _ _ h2; (try simp only [h1, h2]); exact ⟨h.need.1, h.need.2.1, h.need.2.2, hK _ h.go⟩
      · rename_i h1 _ _ _ _ h2 _ _ _ h3; (try simp only [h1, h2, h3]); exact ⟨h.need.1, h.need.2.1, h.need.2.2, hK _ h.go⟩
    | some l =>
      simp only [effQ, eff] at h ⊢
      split at h
      · rename_i h1
        (try simp only [h1])
        refine ⟨h.need.1, h.need.2, ?_⟩
        have h := h.go
        split at h
        all_goals first | exact h.elim | (rename_i h2; (try simp only [h2]); exact hK _ h)
      · exact h.elim
  | field agg off n x =>
    simp only [effQ, eff] at h ⊢
    split at h
    all_goals first | exact h.elim | (rename_i h1; (try simp only [h1]); exact ⟨h.1, hK _ h.2⟩)
  | index agg s len x i =>
    simp only [effQ, eff] at h ⊢
    split at h
    all_goals first | exact h.elim | (rename_i h1 h2; (try simp only [h1, h2]); exact ⟨h.1, h.2.1, h.2.2.1, hK _ h.2.2.2⟩)
  | sidx x i =>
    simp only [effQ, eff] at h ⊢
    split at h
    all_goals first | exact h.elim | (rename_i h1 h2; (try simp only [h1, h2]); exact ⟨h.1, h.2.1, hK _ h.2.2⟩)
  | ext k x =>
    simp only [effQ, eff] at h ⊢
    split at h
    all_goals first | exact h.elim | (rename_i h1; (try simp only [h1]); exact ⟨h.1, hK _ h.2⟩)
  | bin op x y =>
    simp only [effQ, eff] at h ⊢
    split at h
    all_goals first | exact h.elim | (rename_i h1 h2; (try simp only [h1, h2]); exact ⟨h.1, binQ_sound h.2 fun v => hK _⟩)
  | eqs ng x y =>
    simp only [effQ, eff] at h ⊢
    split at h
    all_goals first | exact h.elim | skip
    rename_i h1 h2; (try simp only [h1, h2])
    have := hK _ h.h
    cases ng <;> simpa using this
  | eqb ng x y =>
    simp only [effQ, eff] at h ⊢
    split at h
    all_goals first | exact h.elim | (rename_i h1 h2; (try simp only [h1, h2]); exact hK _ h)
  | eqa ng ks x y =>
    have ex : ∀ t, (bif ng then !t else t) = (ng ^^ t) := fun t => by cases ng <;> cases t <;> rfl
    simp only [effQ, eff, ex] at h ⊢
    split at h
    · rename_i h1 h2
      (try simp only [h1, h2])
      obtain ⟨⟨b, h3, h4⟩⟩ := h
      simp only [h3]
      exact hK _ h4
    · exact h.elim
  | not x =>
    simp only [effQ, eff] at h ⊢
    split at h
    all_goals first | exact h.elim | (rename_i h1; (try simp only [h1]); exact hK _ h)
  | neg x =>
    simp only [effQ, eff] at h ⊢
    split at h
    all_goals first | exact h.elim | (rename_i h1; (try simp only [h1]); exact hK _ h)
  | len x =>
    simp only [effQ, eff] at h ⊢
    split at h
    · rename_i h1; (try simp only [h1]); exact hK _ h.go
    · rename_i h1; (try simp only [h1]); exact hK _ h.go
    · rename_i h1; (try simp only [h1]); exact hK _ h
    · exact h.elim
  | slen x =>
    simp only [effQ, eff] at h ⊢
    split at h
    all_goals first | exact h.elim | (rename_i h1; (try simp only [h1]); exact hK _ h)
  | app s bytes x y mode =>
    simp only [effQ] at h
    split at h
    · rename_i h1; exact appQ_sound (by simp [h1, srcRows, h.1]) h.2 hK
    · rename_i h1; exact appQ_sound (by simp [h1, srcRows]) h hK
    · rename_i h1
      split at h
      · rename_i h2; exact appQ_sound (by simp [h1, srcRows, h2, h.1]) h.2.go hK
      · exact h.elim
    · exact h.elim
  | slice s x lo hi =>
    revert h
    have key : ∀ L : V, (match x.ev st, L with
      | .sl f s' rows, .int _ l => match hi with
        | none => s' = s ∧ Lt (fun _ => 0 ≤ l ∧ l ≤ rows.length) (fun _ => rows.drop l.toNat) fun rows => K (st.put d (.sl f s rows))
        | some h => match h.ev st with
          | .int _ h => s' = s ∧ Lt (fun _ => 0 ≤ l ∧ l ≤ h ∧ h ≤ rows.length) (fun _ => (rows.take h.toNat).drop l.toNat) fun rows => K (st.put d (.sl f s rows))
          | _ => False
      | .sref r i n, .int _ l => match st.heap r, (match hi with | none => V.int .i64 n | some h => h.ev st) with
        | .rows s' _, .int _ h => s' = s ∧ Lt (fun _ => 0 ≤ l ∧ l ≤ h ∧ h ≤ n) (fun _ => (i + l.toNat, h.toNat - l.toNat)) fun p => K (st.put d (.sref r p.1 p.2))
        | _, _ => False
      | _, _ => False) → (match x.ev st, L with
      | .sl f s' rows, .int _ l => match (match hi with | none => V.int .i64 rows.length | some h => h.ev st) with
        | .int _ h => s' = s ∧ 0 ≤ l ∧ l ≤ h ∧ h ≤ rows.length ∧ K' (st.put d (.sl f s ((rows.take h.toNat).drop l.toNat)))
        | _ => False
      | .sref r i n, .int _ l => match st.heap r, (match hi with | none => V.int .i64 n | some h => h.ev st) with
        | .rows s' _, .int _ h => s' = s ∧ 0 ≤ l ∧ l ≤ h ∧ h ≤ n ∧ K' (st.put d (.sref r (i + l.toNat) (h.toNat - l.toNat)))
        | _, _ => False
      | _, _ => False) := by
      intro L h
      generalize x.ev st = X at h ⊢
      cases X <;> first | exact h.elim | skip
      · cases L <;> first | exact h.elim | skip
        rename_i r i n _ l
        simp only at h ⊢
        generalize (match hi with | none => V.int .i64 n | some h => h.ev st) = H at h ⊢
        generalize st.heap r = O at h ⊢
        cases O <;> first | exact h.elim | skip
        cases H <;> first | exact h.elim | exact ⟨h.1, h.2.need.1, h.2.need.2.1, h.2.need.2.2, hK _ h.2.go⟩
      · cases L <;> first | exact h.elim | skip
        cases hi with
        | none =>
          obtain ⟨a, b, c⟩ := h
          refine ⟨a, b.1, b.2, Int.le_refl _, ?_⟩
          have := hK _ c
          simpa using this
        | some hh =>
          simp only at h ⊢
          generalize hh.ev st = H at h ⊢
          cases H <;> first | exact h.elim | exact ⟨h.1, h.2.need.1, h.2.need.2.1, h.2.need.2.2, hK _ h.2.go⟩
    exact fun h => key _ h
  | sslice x lo hi =>
    revert h
    have key : ∀ L : V, (match x.ev st, L with
      | .str b, .int _ l => match (match hi with | none => V.int .i64 b.size | some h => h.ev st) with
        | .int _ h => 0 ≤ l ∧ l ≤ h ∧ h ≤ b.size ∧ K (st.put d (.str (b.extract l.toNat h.toNat)))
        | _ => False
      | _, _ => False) → (match x.ev st, L with
      | .str b, .int _ l => match (match hi with | none => V.int .i64 b.size | some h => h.ev st) with
        | .int _ h => 0 ≤ l ∧ l ≤ h ∧ h ≤ b.size ∧ K' (st.put d (.str (b.extract l.toNat h.toNat)))
        | _ => False
      | _, _ => False) := by
      intro L h
      generalize x.ev st = X at h ⊢
      cases X <;> first | exact h.elim | skip
      cases L <;> first | exact h.elim | skip
      rename_i b _ l
      simp only at h ⊢
      generalize (match hi with | none => V.int .i64 b.size | some h => h.ev st) = H at h ⊢
      cases H <;> first | exact h.elim | exact ⟨h.1, h.2.1, h.2.2.1, hK _ h.2.2.2⟩
    exact fun h => key _ h
  | mks s bytes z n mode =>
    simp only [effQ, eff] at h ⊢
    split at h
    · rename_i h1; (try simp only [h1]); exact ⟨h.need.1, h.need.2.1, h.need.2.2, newQ_sound h.go hK⟩
    · exact h.elim
  | mkf f first caps => exact hK _ h
  | max x y =>
    simp only [effQ, eff] at h ⊢
    split at h
    all_goals first | exact h.elim | skip
    rename_i h1 h2
    simp only [h1, h2]
    refine ⟨h.1, ?_⟩
    have h3 := hK _ h.2.h
    rename_i k a k' b
    by_cases hlt : a < b
    · rw [decide_eq_true hlt] at h3; simpa [hlt] using h3
    · rw [decide_eq_false hlt] at h3; simpa [hlt] using h3
  | min x y =>
    simp only [effQ, eff] at h ⊢
    split at h
    all_goals first | exact h.elim | skip
    rename_i h1 h2
    simp only [h1, h2]
    refine ⟨h.1, ?_⟩
    have h3 := hK _ h.2.h
    rename_i k a k' b
    by_cases hlt : b < a
    · rw [decide_eq_true hlt] at h3; simpa [hlt] using h3
    · rw [decide_eq_false hlt] at h3; simpa [hlt] using h3
  | call f args objs => exact callQ_sound h hK
  | cut s x hi mode =>
    simp only [effQ, eff] at h ⊢
    split at h
    · rename_i h1 h2
      simp only [h1, h2]
      split at h
      · rename_i h3
        simp only [h3]
        obtain ⟨q1, q2, h⟩ := h
        refine ⟨q1, q2, h.need.1, h.need.2.1, h.need.2.2, ?_⟩
        have h := h.go
        cases mode with
        | none => exact hK _ h
        | some r' => exact ⟨h.1, hK _ h.2⟩
      · exact h.elim
    · exact h.elim
  | callp f args cands =>
    simp only [effQ, eff] at h ⊢
    split at h
    · rename_i h1; simp only [h1]; exact callQ_sound h hK
    · exact h.elim
  | calln x args objs =>
    simp only [effQ, eff] at h ⊢
    split at h
    · rename_i h1; (try simp only [h1]); exact ⟨h.c, h.k.1, h.k.2.1, callQ_sound h.k.2.2 hK⟩
    · exact h.elim
  | niltest ng x =>
    have ex : ∀ t, (bif ng then !t else t) = (ng ^^ t) := fun t => by cases ng <;> cases t <;> rfl
    simp only [effQ, eff, ex] at h ⊢
    split at h
    · rename_i h1; (try simp only [h1]); exact ⟨fun e => ⟨hK _ (h.h.1 e).1, hK _ (h.h.1 e).2⟩, fun e => hK _ (h.h.2 e)⟩
    · rename_i h1; (try simp only [h1]); exact ⟨hK _ (h.h.1 rfl).1, hK _ (h.h.1 rfl).2⟩
    · rename_i h1; (try simp only [h1]); exact ⟨hK _ (h.h.1 rfl).1, hK _ (h.h.1 rfl).2⟩
    · exact h.elim
  | mkm r => exact ⟨h.1, hK _ h.2⟩
  | mget kd z x k =>
    simp only [effQ, eff] at h ⊢
    split at h
    · rename_i h1
      simp only [h1]
      split at h
      · rename_i h2
        simp only [h2]
        exact ⟨h.need.1, h.need.2, hK _ h.go⟩
      · exact h.elim
    · exact h.elim
  | mlen x =>
    simp only [effQ, eff] at h ⊢
    split at h
    · rename_i h1
      simp only [h1]
      split at h
      · rename_i h2
        simp only [h2]
        exact hK _ h.go
      · exact h.elim
    · exact h.elim
  | mset kd x k v =>
    simp only [effQ, eff] at h ⊢
    split at h
    · rename_i h1
      simp only [h1]
      split at h
      · rename_i h2
        simp only [h2]
        exact ⟨h.n.1, h.n.2.1, h.n.2.2.1, h.n.2.2.2, hK _ h.h⟩
      · exact h.elim
    · exact h.elim
  | mput f x g k n =>
    simp only [effQ, eff] at h ⊢
    split at h
    · rename_i h1 h2 h3 h4
      simp only [h1, h2, h3, h4]
      split at h
      · rename_i h5
        simp only [h5]
        obtain ⟨⟨n1, n2, rows, n3, n4⟩, h⟩ := h
        simp only [n3]
        refine ⟨n1, n2, n4, hK _ ?_⟩
        simpa only [mgrow, n3, Option.getD_some] using h
      · exact h.elim
    · exact h.elim
  | loadb n x =>
    simp only [effQ, eff] at h ⊢
    repeat' split at h
    all_goals first | exact h.elim | skip
    rename_i h1 _ _ h2; (try simp only [h1, h2]); exact ⟨h.1, hK _ h.2⟩
  | nilchk x =>
    simp only [effQ, eff] at h ⊢
    split at h
    all_goals first | exact h.elim | (rename_i h1; (try simp only [h1]); exact hK _ h)

def effGQ (P : Program) (o : Op') (st : St) (K : St → Prop) : Prop :=
  match o.guard with
  | none => effQ P o.op o.dst st K
  | some (t, w) => match st.env t, w with
    | .bool true, true => effQ P o.op o.dst st K
    | .bool false, false => effQ P o.op o.dst st K
    | .bool true, false => K (st.put o.dst (.tup []))
    | .bool false, true => K (st.put o.dst (.tup []))
    | .tup [], _ => K (st.put o.dst (.tup []))
    | _, _ => False

theorem effGQ_sound {o : Op'} (h : effGQ P o st K) (hK : ∀ s, K s → K' s) : effG P o st K' := by
  unfold effGQ at h
  unfold effG
  split at h
  · rename_i h1; simp only [h1]; exact effQ_sound h hK
  · rename_i t w h1
    simp only [h1]
    split at h
    · rename_i hb; simp only [hb]; exact ⟨fun _ => by rw [put_self hb]; exact effQ_sound h hK, fun e => by cases e⟩
    · rename_i hb; simp only [hb]; exact ⟨fun _ => by rw [put_self hb]; exact effQ_sound h hK, fun e => by cases e⟩
    · rename_i hb; simp only [hb]; exact ⟨(fun e => by cases e), fun _ => by rw [Bool.not_false, put_self hb]; exact hK _ h⟩
    · rename_i hb; simp only [hb]; exact ⟨(fun e => by cases e), fun _ => by rw [Bool.not_true, put_self hb]; exact hK _ h⟩
    · rename_i hb; simp only [hb]; exact hK _ h
    · exact h.elim

def opsQ (P : Program) : List Op' → St → (St → Prop) → Prop
  | [], st, K => K st
  | o :: l, st, K => effGQ P o st fun st' => opsQ P l st' K

theorem opsQ_sound : ∀ {l : List Op'} {st : St} {K K' : St → Prop}, opsQ P l st K → (∀ s, K s → K' s) → wpOps P l st K'
  | [], _, _, _, h, hK => hK _ h
  | _ :: _, _, _, _, h, hK => effGQ_sound h fun _ h' => opsQ_sound h' hK

def quietB (o : Op') (st : St) : Bool :=
  match o.op with
  | .store _ _ _ => false
  | .niltest _ _ => false
  | .callp _ _ _ => false
  | .cut _ _ _ _ => false
  | .mset _ _ _ _ => false
  | .mput _ _ _ _ _ => false
  | .app _ _ x _ _ => match x.ev st with | .nils _ => true | _ => false
  | .call _ args _ => args.all Pm.isRo
  | .calln _ args _ => args.all Pm.isRo
  | _ => true
theorem quietB_iff {o : Op'} (h : quietB o st = true) : quiet o st := by
  obtain ⟨d, o, g⟩ := o
  cases o with
  | store n x v => simp [quietB] at h
  | callp f args cands => simp [quietB] at h
  | cut s x hi mode => simp [quietB] at h
  | niltest ng x => simp [quietB] at h
  | mset kd x k v => simp [quietB] at h
  | mput f x g k n => simp [quietB] at h
  | app s b x y m =>
    simp only [quietB] at h
    split at h
    · rename_i h2; exact ⟨_, h2⟩
    · cases h
  | call f args objs => exact h
  | calln x args objs => exact h
  | _ => trivial

def opsQD (P : Program) : List (Op' × Nat) → St → (St → Prop) → Prop
  | [], st, K => K st
  | o :: l, st, K => match (match o.2 with | 1 => quietB o.1 st | _ => true) with
    | true => effGQ P o.1 st fun st' => opsQD P l st' K
    | false => False

theorem opsQD_sound : ∀ {l : List (Op' × Nat)} {st : St} {K K' : St → Prop}, opsQD P l st K → (∀ s, K s → K' s) → wpOpsD P l st K'
  | [], _, _, _, h, hK => hK _ h
  | _ :: _, _, _, _, h, hK => by
    simp only [opsQD] at h
    split at h
    · rename_i h1
      exact ⟨fun e => by rw [e] at h1; exact quietB_iff h1, effGQ_sound h fun _ h' => opsQD_sound h' hK⟩
    · exact h.elim

structure Join (c : (St → Prop) → Prop) (k : St → Prop) : Prop where
  h : ∃ J : St → Prop, c J ∧ ∀ st, J st → k st
structure LoopQ (st : St) (body : St → (St → Prop) → Prop) : Prop where
  h : ∃ (I : St → Nat → Prop) (m : Nat), I st m ∧ ∀ st m, I st m → body st fun st' => ∃ m', m' < m ∧ I st' m'

theorem LoopQ.to {ι : Type} {st : St} {body : St → (St → Prop) → Prop} (S : ι → St) (ok : ι → Prop) (mu : ι → Nat) (i0 : ι) (h0 : ok i0) (e0 : st = S i0)
    (round : ∀ i, ok i → ∀ A : St → Prop, (∀ j st', ok j → mu j < mu i → st' = S j → A st') → body (S i) A) : LoopQ st body :=
  ⟨fun st m => ∃ i, ok i ∧ st = S i ∧ m = mu i, mu i0, ⟨i0, h0, e0, rfl⟩, fun st m ⟨i, hi, e1, e2⟩ => by
    subst e1 e2
    exact round i hi _ fun j st' hj hlt e => ⟨mu j, hlt, j, hj, e, rfl⟩⟩

structure RngQ (P : Program) (f : FuncId) (caps : List V) (k : Nat) (st : St) (body : St → List V → (St → Prop) → Prop) (N : St → Prop) : Prop where
  h : ∃ xs : List (List V), YieldsV P f caps xs ∧ (∀ vs ∈ xs, vs.length = k ∧ V.closedL vs = true) ∧ ∃ I : List (List V) → St → Prop, I [] st ∧
    (∀ (pre : List (List V)) (vs : List V), vs ∈ xs → (∀ ys ∈ pre, ys ∈ xs) → pre.length < xs.length → ∀ st, I pre st → body st vs fun st' => I (pre ++ [vs]) st') ∧ ∀ st, I xs st → N st
theorem RngQ.to {P : Program} {f : FuncId} {caps : List V} {k : Nat} {st : St} {body : St → List V → (St → Prop) → Prop} {N : St → Prop} {ι : Type} {xs : List (List V)} (hY : YieldsV P f caps xs) (hx : ∀ vs ∈ xs, vs.length = k ∧ V.closedL vs = true)
    (S : ι → St) (ok : List (List V) → ι → Prop) (i0 : ι) (h0 : ok [] i0) (e0 : st = S i0)
    (round : ∀ (pre : List (List V)) (vs : List V) i, vs ∈ xs → (∀ ys ∈ pre, ys ∈ xs) → pre.length < xs.length → ok pre i → ∀ A : St → Prop, (∀ j st', ok (pre ++ [vs]) j → st' = S j → A st') → body (S i) vs A)
    (done : ∀ i, ok xs i → N (S i)) : RngQ P f caps k st body N :=
  ⟨xs, hY, hx, fun pre st => ∃ i, ok pre i ∧ st = S i, ⟨i0, h0, e0⟩, fun pre vs h1 h2 h3 st ⟨i, hi, e⟩ => by
    subst e
    exact round pre vs i h1 h2 h3 hi _ fun j st' hj e => ⟨j, hj, e⟩, fun st ⟨i, hi, e⟩ => by subst e; exact done i hi⟩

def codeQ (P : Program) : C → St → (St → Prop) → (Nat → St → Prop) → (St → Prop) → Prop
  | .skip, st, N, _, _ => N st
  | .ret, st, _, _, R => R st
  | .exit id, st, _, X, _ => X id st
  | .reg names ops, st, N, _, _ => opsQ P ops (st.kills names) N
  | .regd names ops, st, N, _, _ => opsQD P ops (st.kills names) N
  | .seq a b, st, N, X, R => codeQ P a st (fun st => codeQ P b st N X R) X R
  | .cond x a b, st, N, X, R => match x.ev st with
    | .bool true => codeQ P a st N X R
    | .bool false => codeQ P b st N X R
    | _ => False
  | .blk id b, st, N, X, R => codeQ P b st N (fun i st => bif Nat.beq i id then N st else X i st) R
  | .loop keep objs b, st, _, X, R => LoopQ (st.keep keep objs) fun st A => codeQ P b st (fun st => A (st.keep keep objs)) X R
  | .fgt stop keep objs b, st, N, X, R => match stop with
    | false => codeQ P b st (fun st => N (st.keep keep objs)) X R
    | true => Join (fun J => codeQ P b st (fun st => J (st.keep keep objs)) X R) N
  | .rng x ps mvs keep objs b, st, N, _, _ => match x.ev st with
    | .fn f [] caps => CanQ P f (V.closedL caps = true ∧ RngQ P f caps ps.length (st.keep keep objs) (fun st vs A => codeQ P b ((st.puts ps vs).moves mvs) (fun st => A (st.keep keep objs)) (fun _ _ => False) (fun _ => False)) N)
    | _ => False

theorem codeQ_sound : ∀ {c : C} {st : St} {N : St → Prop} {X : Nat → St → Prop} {R : St → Prop} {Q : Ex → St → Prop}, codeQ P c st N X R → (∀ s, N s → Q .normal s) → (∀ i s, X i s → Q (.exit i) s) → (∀ s, R s → Q .ret s) → wpC P c st Q
  | .skip, _, _, _, _, _, h, hN, _, _ => hN _ h
  | .ret, _, _, _, _, _, h, _, _, hR => hR _ h
  | .exit _, _, _, _, _, _, h, _, hX, _ => hX _ _ h
  | .reg _ _, _, _, _, _, _, h, hN, _, _ => opsQ_sound h fun _ h' => hN _ h'
  | .regd _ _, _, _, _, _, _, h, hN, _, _ => opsQD_sound h fun _ h' => hN _ h'
  | .seq a b, _, _, _, _, _, h, hN, hX, hR => codeQ_sound (c := a) h (fun _ h' => codeQ_sound (c := b) h' hN hX hR) hX hR
  | .cond x a b, st, _, _, _, _, h, hN, hX, hR => by
    simp only [codeQ] at h
    simp only [wpC]
    split at h
    · rename_i h1; simp only [h1]; exact ⟨fun e => codeQ_sound h hN hX hR, fun e => by cases e⟩
    · rename_i h1; simp only [h1]; exact ⟨(fun e => by cases e), fun e => codeQ_sound h hN hX hR⟩
    · exact h.elim
  | .blk id b, _, _, _, _, _, h, hN, hX, hR => codeQ_sound (c := b) h (fun _ h' => hN _ h') (fun i _ h' => by
      simp only at h' ⊢
      by_cases e : i = id
      · subst e
        rw [if_pos rfl]
        simp only [Nat.beq_refl, cond_true] at h'
        exact hN _ h'
      · rw [if_neg e]
        have : Nat.beq i id = false := by cases hb : Nat.beq i id with | true => exact (e (Nat.eq_of_beq_eq_true hb)).elim | false => rfl
        rw [this] at h'
        exact hX _ _ h') hR
  | .loop keep objs b, st, _, _, _, _, h, _, hX, hR => by
    obtain ⟨I, m, h0, hr⟩ := h
    exact ⟨I, ⟨m, h0⟩, fun st m hI => codeQ_sound (c := b) (hr st m hI) (fun _ h' => h') hX hR⟩
  | .fgt stop keep objs b, st, _, _, _, _, h, hN, hX, hR => by
    cases stop with
    | false => exact codeQ_sound (c := b) h (fun _ h' => hN _ h') hX hR
    | true =>
      obtain ⟨J, h1, h2⟩ := h
      exact codeQ_sound (c := b) h1 (fun _ h' => hN _ (h2 _ h')) hX hR
  | .rng x ps mvs keep objs b, st, _, _, _, _, h, hN, _, _ => by
    simp only [codeQ] at h
    simp only [wpC]
    split at h
    · rename_i f caps h1
      simp only [h1]
      obtain ⟨a1, a2, ⟨xs, b1, b2, I, b3, b4, b5⟩⟩ := h
      exact ⟨a1, a2, xs, b1, b2, I, b3, fun pre vs q1 q2 q3 st hI => codeQ_sound (c := b) (b4 pre vs q1 q2 q3 st hI) (fun _ h' => h') (fun _ _ h' => h'.elim) (fun _ h' => h'.elim), fun st hI => hN _ (b5 st hI)⟩
    · exact h.elim

theorem Join.to {c : (St → Prop) → Prop} {k : St → Prop} (J : St → Prop) (h : c J) (h' : ∀ st, J st → k st) : Join c k := ⟨J, h, h'⟩

theorem Lt.len {n : Nat} {K : Int → Prop} (k : ∀ v : Int, 0 ≤ v ∧ v.toNat = n → K v) : Lt (fun _ => True) (fun _ => (n : Int)) K := ⟨trivial, k _ ⟨by omega, by omega⟩⟩
theorem Lt.wr {z : Int} {K : Int → Prop} (h : -9223372036854775808 ≤ z) (h' : z < 9223372036854775808) (k : ∀ v, v = z → K v) : Lt (fun _ => True) (fun _ => IntKind.i64.wrap z) K :=
  ⟨trivial, k _ (by rw [IntKind.wrap_i64]; omega)⟩
theorem Lt.rem {a b : Int} {K : Int → Prop} (h : 0 ≤ a) (h' : 0 < b) (k : ∀ v, v = a % b → K v) : Lt (fun _ => b ≠ 0) (fun _ => a.tmod b) K :=
  ⟨by omega, k _ (Int.tmod_eq_emod_of_nonneg h)⟩
theorem Lt.quo {a b : Int} {K : Int → Prop} (h : 0 ≤ a) (h2 : a < 9223372036854775808) (h' : 0 < b) (k : ∀ v, v = a / b → K v) : Lt (fun _ => b ≠ 0) (fun _ => IntKind.i64.wrap (a.tdiv b)) K := by
  have h3 : 0 ≤ a / b := Int.ediv_nonneg h (by omega)
  have h4 : a / b ≤ a := Int.ediv_le_self _ h
  exact ⟨by omega, k _ (by rw [Int.tdiv_eq_ediv_of_nonneg h, IntKind.wrap_i64]; omega)⟩

theorem callsV_q {P : Program} (hD : RegD P) {f : FuncId} {fn : Func} (hf : P.funcs[f]? = some fn) {t : FnT} (hok : okFn P fn t = true) {args : List V} {res : V} {outs : List V} {fr : Bool}
    (hl : args.length = t.k) (hio : iosOk t.pins 0 args = true) (hsh : args.map V.sh = args)
    (h : ∀ (P' : Program) (R : St → Prop), P' = P → (∀ st, Leave args t.rvs res outs fr st → R st) → codeQ P' t.body (St.enter args t.ns) R (fun _ _ => False) R) (hnm : args.all V.noMap = true := by rfl) : CallsV P f args res outs fr :=
  callsV_fn hD hf hok hl hio hsh (codeQ_sound (h P (fun st => Leave args t.rvs res outs fr st) rfl fun _ h => h) (fun _ h => ⟨.inl rfl, h⟩) (fun _ _ h => h.elim) (fun _ h => ⟨.inr rfl, h⟩)) hnm
end Go.Ab

namespace Go.Ab
open Go

theorem IfLt.y {a b : Int} {K : Bool → Prop} (k : K true) (h : a < b := by omega) : IfLt a b K := .t h k
theorem IfLt.n {a b : Int} {K : Bool → Prop} (k : K false) (h : ¬ a < b := by omega) : IfLt a b K := .f (by omega) k
theorem IfLe.y {a b : Int} {K : Bool → Prop} (k : K true) (h : a ≤ b := by omega) : IfLe a b K := .t h k
theorem IfLe.n {a b : Int} {K : Bool → Prop} (k : K false) (h : ¬ a ≤ b := by omega) : IfLe a b K := .f (by omega) k
theorem IfEq.y {a b : Int} {K : Bool → Prop} (k : K true) (h : a = b := by omega) : IfEq a b K := .t h k
theorem IfEq.n {a b : Int} {K : Bool → Prop} (k : K false) (h : ¬ a = b := by omega) : IfEq a b K := .f (by omega) k
theorem Lt.wn {z v : Int} {K : Int → Prop} (hv : v = z) (k : K v) (h : -9223372036854775808 ≤ z := by omega) (h' : z < 9223372036854775808 := by omega) : Lt (fun _ => True) (fun _ => IntKind.i64.wrap z) K := by
  subst hv
  exact .wr h h' fun w hw => hw ▸ k
theorem Lt.wa {z : Int} {K : Int → Prop} (k : ∀ v, v = z → K v) (h : -9223372036854775808 ≤ z := by omega) (h' : z < 9223372036854775808 := by omega) : Lt (fun _ => True) (fun _ => IntKind.i64.wrap z) K := .wr h h' k
theorem Lt.ra {a b : Int} {K : Int → Prop} (k : ∀ v, v = a % b → K v) (h : 0 ≤ a := by omega) (h' : 0 < b := by omega) : Lt (fun _ => b ≠ 0) (fun _ => a.tmod b) K := .rem h h' k
theorem Lt.qa {a b : Int} {K : Int → Prop} (k : ∀ v, v = a / b → K v) (h : 0 ≤ a := by omega) (h2 : a < 9223372036854775808 := by omega) (h' : 0 < b := by omega) : Lt (fun _ => b ≠ 0) (fun _ => IntKind.i64.wrap (a.tdiv b)) K := .quo h h2 h' k
theorem Lt.ln {n : Nat} {K : Int → Prop} {k : Int} (h : 0 ≤ k ∧ k.toNat = n) (c : K k) : Lt (fun _ => True) (fun _ => (n : Int)) K := ⟨trivial, by
  have : (n : Int) = k := by omega
  rw [this]; exact c⟩
theorem Lt.row {s s' : Nat} {i : Int} {rows : List (List V)} {row : List V} {K : List V → Prop} (g : rows.getD i.toNat [] = row) (k : K row) (h0 : s' = s := by rfl) (h1 : 0 ≤ i := by omega) (h2 : i.toNat < rows.length := by omega) :
    Lt (fun _ => s' = s ∧ 0 ≤ i ∧ i.toNat < rows.length) (fun _ => rows.getD i.toNat []) K := ⟨⟨h0, h1, h2⟩, by rw [g]; exact k⟩
theorem AppL.au {n bytes : Nat} {rs ys : List (List V)} {K : List (List V) → Nat → Prop} (k : ∀ v m, v = rs ++ ys → m = v.length → v.length = rs.length + ys.length → K v m) (h1 : n = rs.length := by first | rfl | assumption | omega)
    (h2 : (rs.length + ys.length) * bytes ≤ 140737488355328 := by first | omega | (simp only [List.length_cons, List.length_nil]; omega)) : AppL n bytes (fun _ => rs) (fun _ => ys) K := .to h1 h2 k
theorem CallQ.go {P : Program} {f : FuncId} {need : Unit → Prop} {as as' : List V} {asx : Unit → List V} {plain : Bool} {K : V → Prop} {res : V} {outs : List V} {fr : Bool} (hc : CallsV P f as' res outs fr) (k : K res) (h : as = as' := by rfl)
    (hp : plain = true ∨ fr = true := by first | exact .inl rfl | exact .inr rfl) (hn : need () := by repeat' first | exact True.intro | exact rfl | assumption | refine ⟨?_, ?_⟩) : CallQ P f need as asx plain K := .to hc h hp k hn
end Go.Ab

namespace Go.Ab
open Go Go.RowKit

def V.read : V → Bool
  | .own _ _ => false
  | .io _ => false
  | .ownm _ _ => false
  | _ => true

theorem read_lists {w : World} : ∀ {args : List V} {vs : List Value}, args.all V.read = true → listA (ownsA w) args vs = [] ∧ listA boxA args vs = [] ∧ ∀ b off, ¬ anyC args vs b off
  | [], vs, _ => ⟨by cases vs <;> rfl, by cases vs <;> rfl, fun b off => by cases vs <;> exact id⟩
  | a :: l, [], _ => ⟨rfl, rfl, fun b off => id⟩
  | a :: l, v :: vs, h => by
    simp only [List.all_cons, Bool.and_eq_true] at h
    obtain ⟨h1, h2, h3⟩ := read_lists (w := w) (vs := vs) h.2
    have e : ownsA w a v = [] ∧ boxA a v = [] ∧ ∀ b off, ¬ boxC a v b off := by
      cases a <;> first | exact ⟨rfl, rfl, fun b off => id⟩ | (simp [V.read] at h)
    refine ⟨by simp only [listA, h1, e.1, List.append_nil], by simp only [listA, h2, e.2.1, List.append_nil], fun b off hc => ?_⟩
    rcases hc with hc | hc
    · exact e.2.2 b off hc
    · exact h3 b off hc

theorem sameBut_eqL {W : Nat → Prop} (hW : ∀ off, ¬ W off) : ∀ {o o' : Option Obj}, sameBut W o o' → o' = o
  | some (.cells c e fr), some (.cells c' e' fr'), ⟨h1, h2, h3, h4⟩ => by
    subst h1 h2
    have : c' = c := Array.ext_getElem? fun i => h4 i (hW i)
    rw [this]
  | none, o', h => h
  | some (.cells _ _ _), none, h => h
  | some (.cells c e fr), some (.map ..), h => h
  | some (.cells c e fr), some o', h => by
    cases o' with
    | cells c' e' fr' =>
      obtain ⟨h1, h2, h3, h4⟩ := h
      subst h1 h2
      have : c' = c := Array.ext_getElem? fun i => h4 i (hW i)
      rw [this]
    | _ => exact h
  | some o, o', h => by
    cases o with
    | cells c e fr =>
      cases o' with
      | none => exact h
      | some o' =>
        cases o' with
        | cells c' e' fr' =>
          obtain ⟨h1, h2, h3, h4⟩ := h
          subst h1 h2
          have : c' = c := Array.ext_getElem? fun i => h4 i (hW i)
          rw [this]
        | _ => exact h
    | _ => exact h

theorem Frame.below {w w' : World} {W : Nat → Nat → Prop} (h : Frame w w' W) (hW : ∀ b off, ¬ W b off) : Below w.heap.size w w' :=
  ⟨h.os, h.tape, h.output, h.size, fun k hk => sameBut_eqL (hW k) (h.same k hk)⟩

theorem CallsV.run {P : Program} {f : FuncId} {args : List V} {res : V} {outs : List V} {fr : Bool} (h : CallsV P f args res outs fr) {vs : List Value} {w : World} {F : Nat → Nat → Prop}
    (hl : args.length = vs.length) (hp : args.all V.read = true) (hF : ∀ b off, F b off → b < w.heap.size)
    (hR : ∀ (i : Nat) (a : V), args[i]? = some a → RA (bare w F fun b => w.heap.size ≤ b) a (vs.getD i undef)) :
    Calls P f vs.toArray w fun e w' => ∃ (v : Value) (F' : Nat → Nat → Prop), e = .returned v ∧ RB (bare w' F' fun b => w.heap.size ≤ b) res v ∧ Below w.heap.size w w' ∧ (∀ b ∈ ownsR res v, w.heap.size ≤ b) := by
  obtain ⟨h1, h2, h3⟩ := read_lists (w := w) (vs := vs) hp
  have hW : ∀ b off, ¬ writable w args vs b off := fun b off hw => by
    rcases hw with hw | hw
    · rw [h1] at hw; cases hw
    · exact h3 b off hw
  intro cs
  obtain ⟨e, w', fr', ⟨v, Fr, he, hpost⟩, rest⟩ := h w F (fun b => w.heap.size ≤ b) vs hl hR (by rw [h1, h2]; exact List.nodup_nil) (by rw [h1]; simp) (by rw [h2]; simp) (fun _ h => h)
    (fun b off hb => ⟨hF b off hb, hW b off⟩) cs
  refine ⟨e, w', fr', ⟨v, _, he, hpost.rres, hpost.frame.below hW, fun b hb => ?_⟩, rest⟩
  have := (hpost.own b (List.mem_append.2 (.inl hb))).1
  rcases this with h | h
  · exact h
  · rw [h1] at h; cases h

theorem sameBut_reflL (W : Nat → Prop) : ∀ o : Option Obj, sameBut W o o
  | none => rfl
  | some o => by cases o <;> first | exact ⟨rfl, rfl, rfl, fun _ _ => rfl⟩ | rfl

theorem undef_lists {w : World} : ∀ (args : List V) (vs : List Value), listA (ownsA w) (args.map fun _ => V.undef) vs = [] ∧ listA boxA (args.map fun _ => V.undef) vs = [] ∧ ∀ b off, ¬ anyC (args.map fun _ => V.undef) vs b off := fun args vs =>
  read_lists (by simp [V.read])

theorem callsV_hand {P : Program} {f : FuncId} {args : List V} {res : V} (hp : args.all V.read = true)
    (h : ∀ (w : World) (vs : List Value) (F : Nat → Nat → Prop) (G : Nat → Prop), args.length = vs.length → (∀ (i : Nat) (a : V), args[i]? = some a → RA (bare w F G) a (vs.getD i undef)) →
      Calls P f vs.toArray w fun e w' => ∃ v, e = .returned v ∧ Below w.heap.size w w' ∧ (∀ F' G', RB (bare w' F' G') res v) ∧ (ownsR res v).Nodup ∧ ∀ b ∈ ownsR res v, w.heap.size ≤ b) :
    CallsV P f args res (args.map fun _ => .undef) true := by
  intro w F G vs hl hR _ _ _ _ _
  refine Calls.mono (h w vs F G hl hR) ?_
  rintro e w' ⟨v, rfl, hb, hres, hnd, hown⟩
  obtain ⟨a1, a2, a3⟩ := read_lists (w := w) (vs := vs) hp
  obtain ⟨b1, b2, b3⟩ := undef_lists (w := w') args vs
  refine ⟨v, fun _ _ => False, rfl, ?_⟩
  exact { fresh := fun _ _ h => h.elim
          rres := hres _ _
          len := by simp
          routs := fun i a ha => by
            rw [List.getElem?_map] at ha
            cases hx : args[i]? with
            | none => rw [hx] at ha; cases ha
            | some x => rw [hx] at ha; cases ha; exact .undef _
          boxes := by rw [a2, b2]
          ranges := fun b off => ⟨fun h => (b3 b off h).elim, fun h => (a3 b off h).elim⟩
          nodup := by rw [b1, a2]; simpa using hnd
          own := fun b hb' => by
            rw [b1, List.append_nil] at hb'
            exact ⟨.inl (hown b hb'), fun _ h => h⟩
          frame := ⟨hb.os, hb.output, hb.tape, hb.size, fun b hlt => by rw [hb.block b hlt]; exact sameBut_reflL _ _⟩ }
end Go.Ab

namespace Go.Ab
open Go

def V.notIo : V → Bool
  | .io _ => false
  | _ => true
theorem outL_plain {st : St} : ∀ {args : List V} {i : Nat}, args.all V.notIo = true → outL st i args = args.map (fun _ => .undef) ∧ outAll (outOk st) i args = true ∧ outCat (outNames st) i args = [] ∧ outCat (outBox st) i args = []
  | [], _, _ => ⟨rfl, rfl, rfl, rfl⟩
  | v :: l, i, h => by
    simp only [List.all_cons, Bool.and_eq_true] at h
    obtain ⟨h1, h2, h3, h4⟩ := outL_plain (st := st) (i := i + 1) h.2
    cases v <;> first
      | (simp [V.notIo] at h; done)
      | exact ⟨by simp only [outL, outV, List.map_cons, h1], by simp only [outAll, outOk, h2, Bool.and_self], by simp only [outCat, outNames, h3, List.append_nil], by simp only [outCat, outBox, h4, List.append_nil]⟩

def okRows (fr : Bool) (rs : List (List V)) : Bool := rs.all fun row => row.all fun c => !fr || c.fresh
theorem okRows_map {α : Type} {fr : Bool} (f : α → List V) (hf : ∀ x, (f x).all (fun c => !fr || c.fresh) = true) (l : List α) : okRows fr (l.map f) = true := by
  unfold okRows
  rw [List.all_map]
  exact List.all_eq_true.2 fun x _ => hf x

theorem Leave.own {args : List V} {t r n s : Nat} {rs rs' : List (List V)} {fr : Bool} {st : St} (h1 : st.env t = .sref r 0 n) (h2 : st.heap r = .rows s rs) (hn : n = rs.length) (he : rs' = rs) (hf : okRows fr rs = true) (ha : args.all V.notIo = true) :
    Leave args [.t t] (.own s rs') (args.map fun _ => .undef) fr st := by
  obtain ⟨a1, a2, a3, a4⟩ := outL_plain (st := st) (i := 0) ha
  have hg : giveC st (.sref r 0 n) = .own s rs := by simp [giveC, h2, hn]
  have hall := hf
  unfold okRows at hall
  simp only [List.all_eq_true] at hall
  refine ⟨by simp [pack, RV.ev, h1, resG, hg, he], a1.symm, ?_, a2, by rw [a3, a4]; simp [RV.ev, h1, V.cells, objC, nodupB, inl]⟩
  simp only [List.all_cons, List.all_nil, Bool.and_true, RV.ev, h1, V.notTup, V.cells, hg, Bool.true_and]
  simp only [okGood, List.all_eq_true]
  exact fun row hrow c hc => hall row hrow c hc

theorem okRows_nil {fr : Bool} : okRows fr [] = true := rfl
theorem okRows_app {fr : Bool} {a b : List (List V)} : okRows fr (a ++ b) = (okRows fr a && okRows fr b) := by simp [okRows]
theorem okRows_cons {fr : Bool} {r : List V} {b : List (List V)} : okRows fr (r :: b) = ((r.all fun c => !fr || c.fresh) && okRows fr b) := rfl
theorem okRows_take {fr : Bool} {a : List (List V)} {n : Nat} (h : okRows fr a = true) : okRows fr (a.take n) = true := by
  unfold okRows at h ⊢
  simp only [List.all_eq_true] at h ⊢
  exact fun x hx => h x (List.mem_of_mem_take hx)

end Go.Ab

namespace Go.Ab
open Go

variable {C : Ctx}
theorem RB1_sh {v : V} {u : Value} (h : RB1 C v u) : RB1 C v.sh u := RB1_shG h C.G
theorem sh_agg {v : V} (h : ∀ cs, v ≠ .agg cs) : ∀ cs, v.sh ≠ .agg cs := fun cs e => by
  cases v <;> simp only [V.sh] at e <;> first | exact h _ rfl | cases e
theorem sh_tup {v : V} (h : ∀ cs, v ≠ .tup cs) : ∀ cs, v.sh ≠ .tup cs := fun cs e => by
  cases v <;> simp only [V.sh] at e <;> first | exact h _ rfl | cases e
theorem RB2_sh {v : V} {u : Value} (h : RB2 C v u) : RB2 C v.sh u := by
  by_cases hv : ∃ cs, v = .agg cs
  · obtain ⟨cs, rfl⟩ := hv
    obtain ⟨us, rfl, h1, h2, h3⟩ := h
    refine ⟨us, rfl, by rw [shL_len]; exact h1, h2, fun j c hj => ?_⟩
    rw [shL_get, Option.map_eq_some_iff] at hj
    obtain ⟨c', q, rfl⟩ := hj
    exact RB1_sh (h3 j c' q)
  · have hne : ∀ cs, v ≠ .agg cs := fun cs e => hv ⟨cs, e⟩
    rw [RB2_other hne] at h
    rw [RB2_other (sh_agg hne)]
    exact RB1_sh h
theorem RB_other {v : V} {u : Value} (h : ∀ cs, v ≠ .tup cs) : RB C v u = RB2 C v u := by
  cases v <;> first | rfl | exact absurd rfl (h _)
theorem RB_sh {v : V} {u : Value} (h : RB C v u) : RB C v.sh u := by
  by_cases hv : ∃ cs, v = .tup cs
  · obtain ⟨cs, rfl⟩ := hv
    obtain ⟨us, rfl, h1, h3⟩ := h
    refine ⟨us, rfl, by rw [shL_len]; exact h1, fun j c hj => ?_⟩
    rw [shL_get, Option.map_eq_some_iff] at hj
    obtain ⟨c', q, rfl⟩ := hj
    exact RB2_sh (h3 j c' q)
  · have hne : ∀ cs, v ≠ .tup cs := fun cs e => hv ⟨cs, e⟩
    rw [RB_other hne] at h
    rw [RB_other (sh_tup hne)]
    exact RB2_sh h
theorem ownsL_sh : ∀ (cs : List V) (us : List Value), ownsL (V.shL cs) us = ownsL cs us
  | [], _ => rfl
  | _ :: _, [] => rfl
  | c :: cs, u :: us => by simp only [V.shL, ownsL, owns1_sh, ownsL_sh cs us]
theorem owns2_sh (v : V) (u : Value) : owns2 v.sh u = owns2 v u := by
  by_cases hv : ∃ cs, v = .agg cs
  · obtain ⟨cs, rfl⟩ := hv
    have e : ∀ w, (∀ us, w ≠ .agg us) → owns2 (V.agg cs).sh w = owns2 (.agg cs) w := fun w hw => by cases w <;> first | rfl | exact absurd rfl (hw _)
    by_cases hu : ∃ us, u = .agg us
    · obtain ⟨us, rfl⟩ := hu; exact ownsL_sh cs _
    · exact e u fun us q => hu ⟨us, q⟩
  · have hne : ∀ cs, v ≠ .agg cs := fun cs e => hv ⟨cs, e⟩
    rw [owns2_other hne, owns2_other (sh_agg hne), owns1_sh]
theorem ownsT2_sh : ∀ (cs : List V) (us : List Value), ownsT2 (V.shL cs) us = ownsT2 cs us
  | [], _ => rfl
  | _ :: _, [] => rfl
  | c :: cs, u :: us => by simp only [V.shL, ownsT2, owns2_sh, ownsT2_sh cs us]
theorem ownsR_sh (v : V) (u : Value) : ownsR v.sh u = ownsR v u := by
  by_cases hv : ∃ cs, v = .tup cs
  · obtain ⟨cs, rfl⟩ := hv
    have e : ∀ w, (∀ us, w ≠ .tuple us) → ownsR (V.tup cs).sh w = ownsR (.tup cs) w := fun w hw => by cases w <;> first | rfl | exact absurd rfl (hw _)
    by_cases hu : ∃ us, u = .tuple us
    · obtain ⟨us, rfl⟩ := hu; exact ownsT2_sh cs _
    · exact e u fun us q => hu ⟨us, q⟩
  · have hne : ∀ cs, v ≠ .tup cs := fun cs e => hv ⟨cs, e⟩
    have e1 : ownsR v u = owns2 v u := by cases v <;> first | rfl | exact absurd rfl (hne _)
    have e2 : ownsR v.sh u = owns2 v.sh u := by
      have := sh_tup hne
      generalize v.sh = w at this
      cases w <;> first | rfl | exact absurd rfl (this _)
    rw [e1, e2, owns2_sh]

theorem CallsV.asRead {P : Program} {f : FuncId} {args : List V} {res : V} {outs : List V} {fr : Bool} (h : CallsV P f args res outs fr) : CallsV P f args res.sh outs false := by
  intro w F G vs hl hR hn h1 h2 h3 h4
  refine (h w F G vs hl hR hn h1 h2 h3 h4).mono ?_
  rintro e w' ⟨v, Fr, rfl, hp⟩
  refine ⟨v, Fr, rfl, ?_⟩
  have hle : Le (bare w' (fun b off => (fr = false ∧ F b off) ∨ Fr b off) G) (bare w' (fun b off => (false = false ∧ F b off) ∨ Fr b off) G) :=
    ⟨fun b off hf => ⟨hf.elim (fun q => .inl ⟨rfl, q.2⟩) .inr, rfl⟩, fun _ hg => hg, fun _ _ _ e => (by cases e), fun _ _ _ _ e => (by cases e), fun _ _ _ _ e => (by cases e)⟩
  exact { hp with
    rres := RB_sh (RB_mono hle rfl hp.rres)
    nodup := by rw [ownsR_sh]; exact hp.nodup
    own := by rw [ownsR_sh]; exact hp.own }

theorem CallsV.argsTo {P : Program} {f : FuncId} {args args' : List V} {res : V} {outs : List V} {fr : Bool} (h : CallsV P f args res outs fr) (hr : args.all V.read = true) (hr' : args'.all V.read = true) (hl : args'.length = args.length)
    (hi : ∀ (i : Nat) (a a' : V), args[i]? = some a → args'[i]? = some a' → ∀ (C : Ctx) (u : Value), RA C a' u → RA C a u) : CallsV P f args' res outs fr := by
  intro w F G vs hlv hR hn h1 h2 h3 h4
  have q := fun w => read_lists (w := w) (args := args) (vs := vs) hr
  have q' := fun w => read_lists (w := w) (args := args') (vs := vs) hr'
  have eo : ∀ w, listA (ownsA w) args vs = listA (ownsA w) args' vs := fun w => (q w).1.trans (q' w).1.symm
  have eb : listA boxA args vs = listA boxA args' vs := (q w).2.1.trans (q' w).2.1.symm
  have ec : ∀ b off, anyC args vs b off ↔ anyC args' vs b off := fun b off => ⟨fun x => ((q w).2.2 b off x).elim, fun x => ((q' w).2.2 b off x).elim⟩
  have ew : ∀ b off, writable w args vs b off ↔ writable w args' vs b off := fun b off => by unfold writable; rw [eo, ec]
  refine (h w F G vs (by omega) (fun i a ha => ?_) (by rw [eo, eb]; exact hn) (by rw [eo]; exact h1) (by rw [eb]; exact h2) h3 (fun b off hf => ⟨(h4 b off hf).1, fun x => (h4 b off hf).2 ((ew b off).1 x)⟩)).mono ?_
  · have hlt := (List.getElem?_eq_some_iff.1 ha).1
    exact hi i a (args'[i]'(by omega)) ha (by simp) _ _ (hR i _ (by simp))
  · rintro e w' ⟨v, Fr, rfl, hp⟩
    exact ⟨v, Fr, rfl, {
      fresh := fun b off x => by rw [← eo]; exact hp.fresh b off x
      rres := hp.rres
      len := hp.len.trans hl.symm
      routs := hp.routs
      boxes := by rw [← eb]; exact hp.boxes
      ranges := fun b off => (hp.ranges b off).trans (ec b off)
      nodup := by rw [← eb]; exact hp.nodup
      own := fun b hb => by rw [← eo]; exact hp.own b hb
      frame := by
        have : writable w args vs = writable w args' vs := by funext b off; exact propext (ew b off)
        rw [← this]; exact hp.frame }⟩
theorem R_nils {C : Ctx} {s : Nat} {u : Value} (h : R C (.nils s) u) : R C (.sl false s []) u := by
  cases h with
  | nils => exact .slNil false s
  | nilsSome _ b off => exact .slZ false s ⟨b, off, none⟩
theorem R_row_nils {C : Ctx} {s : Nat} {u : Value} (h : R C (.sl false 1 [[.nils s]]) u) : R C (.sl false 1 [[.sl false s []]]) u := by
  cases h with
  | sl _ _ rows b base cap g hc hm hu hfr hcell hcl hr =>
    have key : ∀ i j c, at2 [[V.sl false s []]] i j = some c → c = .sl false s [] ∧ at2 [[V.nils s]] i j = some (.nils s) := fun i j c hc => by
      unfold at2 at hc ⊢
      cases i with
      | zero =>
        cases j with
        | zero => simp at hc; exact ⟨hc.symm, rfl⟩
        | succ j => simp at hc
      | succ i => simp at hc
    exact .sl false 1 [[.sl false s []]] b base cap g hc hm (fun r hr' => by simp at hr'; subst hr'; rfl) (fun e => by cases e) (fun i j c h => hcell i j _ (key i j c h).2) (fun i j c h => by rw [(key i j c h).1]; rfl)
      (fun i j c h => by rw [(key i j c h).1]; exact R_nils (hr i j _ (key i j c h).2))
end Go.Ab

namespace Go.Ab
open Go Go.ChangeShapes

def Typed (P : Program) (B : Nat) : Nat → TypeId → List V → Prop
  | 0, _, _ => False
  | d + 1, t, vs => match P.underlying t with
    | some .bool => ∃ b, vs = [.bool b]
    | some (.int k) => ∃ n, (Lit.int k n).wf = true ∧ vs = [.int k n]
    | some .string => ∃ s : ByteArray, s.size ≤ maxLen ∧ vs = [.str s]
    | some (.slice e) => ∃ rows : List (List V), rows.length ≤ maxLen ∧ rows.length * P.bytesOf e ≤ B ∧ (∀ r ∈ rows, r.length = P.cellsOf e ∧ Typed P B d e r) ∧ vs = [.sl false (P.cellsOf e) rows]
    | some (.struct fs) => vs.length = P.cellsOf t ∧ ∀ f ∈ fs.toList, Typed P B d f.type ((vs.drop f.offset).take (P.cellsOf f.type))
    | some (.array n e) => vs.length = P.cellsOf t ∧ ∀ i, i < n → Typed P B d e ((vs.drop (i * P.cellsOf e)).take (P.cellsOf e))
    | _ => False

def tiles (P : Program) : List Field → Nat → Nat → Bool
  | [], off, total => off == total
  | f :: fs, off, total => f.offset == off && tiles P fs (off + P.cellsOf f.type) total

def tyOk (P : Program) : Nat → TypeId → Bool
  | 0, _ => false
  | d + 1, t => match P.underlying t with
    | some .bool | some (.int _) | some .string => P.cellsOf t == 1
    | some (.slice e) => P.cellsOf t == 1 && tyOk P d e && decide (0 < P.cellsOf e)
    | some (.struct fs) => tiles P fs.toList 0 (P.cellsOf t) && fs.toList.all fun f => tyOk P d f.type
    | some (.array n e) => n * P.cellsOf e == P.cellsOf t && tyOk P d e
    | _ => false

def Good (C : Ctx) (cs : List Value) (j : Nat) (c : V) : Prop := ∃ u, cs[j]? = some u ∧ u.oneCell' = true ∧ c.closed = true ∧ R C c u

theorem Good.seg {C : Ctx} {cs : List Value} {off n j : Nat} {c : V} (h : Good C ((cs.drop off).take n) j c) : Good C cs (off + j) c := by
  obtain ⟨u, h1, h2⟩ := h
  rw [List.getElem?_take] at h1
  split at h1
  · rw [List.getElem?_drop] at h1; exact ⟨u, h1, h2⟩
  · cases h1

section
variable {B : Nat} {H : Type} {enc : TypeId × Value → H} {P : Program} {W : World} {held : Bool} {F : Nat → Nat → Prop} {G : Nat → Prop}

theorem weights_all {ds : List (DataW H)} {e : TypeId} {d : DataW H} (h : d ∈ ds) : ∀ w ∈ d.weights P e, w ∈ DataW.weightsAll P e ds := by
  induction ds with
  | nil => cases h
  | cons x l ih =>
    intro w hw
    simp only [DataW.weightsAll, List.mem_append]
    rcases List.mem_cons.1 h with rfl | h
    · exact .inl hw
    · exact .inr (ih h w hw)

theorem fields_typed {d fuel : Nat} {cs : List Value} (ih : ∀ (t : TypeId) (cs : List Value) (x : DataW H × List MemPlace), tyOk P d t = true → DataW.trod enc P W 0 (fun _ => true) held fuel t cs = some x → (∀ w ∈ x.1.weights P t, w ≤ B) →
      ∃ vs : List V, vs.length = P.cellsOf t ∧ Typed P B d t vs ∧ ∀ j c, vs[j]? = some c → Good (bare W F G) cs j c) :
    ∀ (fs : List Field) (off total : Nat), tiles P fs off total = true → (∀ f ∈ fs, tyOk P d f.type = true ∧ ∃ x, DataW.trod enc P W 0 (fun _ => true) held fuel f.type ((cs.drop f.offset).take (P.cellsOf f.type)) = some x ∧ ∀ w ∈ x.1.weights P f.type, w ≤ B) →
      off ≤ total ∧ ∃ vs : List V, vs.length = total - off ∧ (∀ f ∈ fs, off ≤ f.offset ∧ Typed P B d f.type ((vs.drop (f.offset - off)).take (P.cellsOf f.type))) ∧ ∀ j c, vs[j]? = some c → Good (bare W F G) cs (off + j) c
  | [], off, total, ht, _ => by
    simp only [tiles, beq_iff_eq] at ht
    subst ht
    exact ⟨Nat.le_refl _, [], by simp, by simp, by simp⟩
  | f :: fs, off, total, ht, hf => by
    simp only [tiles, Bool.and_eq_true, beq_iff_eq] at ht
    obtain ⟨rfl, ht⟩ := ht
    obtain ⟨hle, vs, h1, h2, h3⟩ := fields_typed ih fs _ total ht (fun g hg => hf g (by simp [hg]))
    obtain ⟨hk, x, hx, hw⟩ := hf f (by simp)
    obtain ⟨us, g1, g2, g3⟩ := ih _ _ _ hk hx hw
    refine ⟨by omega, us ++ vs, by simp; omega, fun g hg => ?_, fun j c hj => ?_⟩
    · rcases List.mem_cons.1 hg with rfl | hg
      · refine ⟨Nat.le_refl _, ?_⟩
        rw [Nat.sub_self, List.drop_zero, List.take_append_of_le_length (by omega), List.take_of_length_le (by omega)]
        exact g2
      · obtain ⟨q1, q2⟩ := h2 g hg
        refine ⟨by omega, ?_⟩
        have e : (us ++ vs).drop (g.offset - f.offset) = vs.drop (g.offset - (f.offset + P.cellsOf f.type)) := by
          rw [List.drop_append, List.drop_eq_nil_of_le (by omega), List.nil_append]
          congr 1; omega
        rw [e]; exact q2
    · by_cases hlt : j < us.length
      · rw [List.getElem?_append_left hlt] at hj
        exact (g3 j c hj).seg
      · rw [List.getElem?_append_right (by omega)] at hj
        have := h3 _ c hj
        rwa [show f.offset + P.cellsOf f.type + (j - us.length) = f.offset + j by omega] at this

theorem elems_typed {d fuel : Nat} {cs : List Value} {e : TypeId} (he : tyOk P d e = true) (ih : ∀ (t : TypeId) (cs : List Value) (x : DataW H × List MemPlace), tyOk P d t = true → DataW.trod enc P W 0 (fun _ => true) held fuel t cs = some x → (∀ w ∈ x.1.weights P t, w ≤ B) →
      ∃ vs : List V, vs.length = P.cellsOf t ∧ Typed P B d t vs ∧ ∀ j c, vs[j]? = some c → Good (bare W F G) cs j c) :
    ∀ (n : Nat), (∀ i, i < n → ∃ x, DataW.trod enc P W 0 (fun _ => true) held fuel e ((cs.drop (i * P.cellsOf e)).take (P.cellsOf e)) = some x ∧ ∀ w ∈ x.1.weights P e, w ≤ B) →
      ∃ vs : List V, vs.length = n * P.cellsOf e ∧ (∀ i, i < n → Typed P B d e ((vs.drop (i * P.cellsOf e)).take (P.cellsOf e))) ∧ ∀ j c, vs[j]? = some c → Good (bare W F G) cs j c
  | 0, _ => ⟨[], by simp, by simp, by simp⟩
  | n + 1, hx => by
    obtain ⟨vs, h1, h2, h3⟩ := elems_typed he ih n (fun i hi => hx i (by omega))
    obtain ⟨x, hx', hw⟩ := hx n (by omega)
    obtain ⟨us, g1, g2, g3⟩ := ih _ _ _ he hx' hw
    refine ⟨vs ++ us, by simp [h1, g1, Nat.succ_mul], fun i hi => ?_, fun j c hj => ?_⟩
    · by_cases e' : i = n
      · subst e'
        rw [List.drop_append, List.drop_eq_nil_of_le (by omega), List.nil_append, h1, Nat.sub_self, List.drop_zero, List.take_of_length_le (by omega)]
        exact g2
      · have hlt : i < n := by omega
        have hle : (i + 1) * P.cellsOf e ≤ n * P.cellsOf e := Nat.mul_le_mul_right _ hlt
        rw [Nat.succ_mul] at hle
        rw [List.drop_append_of_le_length (by omega), List.take_append_of_le_length (by simp; omega)]
        exact h2 i hlt
    · by_cases hlt : j < vs.length
      · rw [List.getElem?_append_left hlt] at hj; exact h3 j c hj
      · rw [List.getElem?_append_right (by omega)] at hj
        have := (g3 _ c hj).seg
        rwa [show n * P.cellsOf e + (j - vs.length) = j by omega] at this

theorem trod_typed (hF : ∀ b off, b < W.heap.size → F b off) : ∀ (d fuel : Nat) (t : TypeId) (cs : List Value) (x : DataW H × List MemPlace), tyOk P d t = true → DataW.trod enc P W 0 (fun _ => true) held fuel t cs = some x → (∀ w ∈ x.1.weights P t, w ≤ B) →
    ∃ vs : List V, vs.length = P.cellsOf t ∧ Typed P B d t vs ∧ ∀ j c, vs[j]? = some c → Good (bare W F G) cs j c
  | 0, _, _, _, _, h, _, _ => by simp [tyOk] at h
  | d + 1, 0, t, cs, x, _, h, _ => by simp [DataW.trod] at h
  | d + 1, fuel + 1, t, cs, x, hok, h, hw => by
    have ih := trod_typed hF d fuel
    unfold tyOk at hok
    unfold Typed
    cases hu : P.underlying t with
    | none => rw [hu] at hok; simp at hok
    | some ty =>
      rw [hu] at hok
      cases ty <;> simp only [Bool.false_eq_true] at hok <;> simp only
      case bool =>
        unfold DataW.trod at h
        rw [hu] at h
        split at h <;> simp_all
        rename_i b
        exact ⟨[.bool b], by simp, by cases b <;> simp, fun j c hj => by
          cases j with
          | zero => simp at hj; subst hj; exact ⟨_, rfl, rfl, rfl, .bool b⟩
          | succ j => simp at hj⟩
      case int k =>
        unfold DataW.trod at h
        rw [hu] at h
        split at h <;> simp_all
        rename_i n _
        obtain ⟨⟨rfl, _⟩, _⟩ := h
        exact ⟨[.int _ n], by simp, ⟨n, by simp_all, rfl⟩, fun j c hj => by
          cases j with
          | zero => simp at hj; subst hj; exact ⟨_, rfl, rfl, rfl, .int _ n⟩
          | succ j => simp at hj⟩
      case string =>
        unfold DataW.trod at h
        rw [hu] at h
        split at h <;> simp_all
        rename_i s
        exact ⟨[.str s], by simp, ⟨s, h.1, rfl⟩, fun j c hj => by
          cases j with
          | zero => simp at hj; subst hj; exact ⟨_, rfl, rfl, rfl, .str s⟩
          | succ j => simp at hj⟩
      case struct fs =>
        simp only [Bool.and_eq_true, List.all_eq_true] at hok
        obtain ⟨xs, n, e, hxe, hl, hlen, hf⟩ := DataW.trod_struct hu h
        cases e
        rw [hxe] at hw
        simp only [DataW.weights, hu] at hw
        obtain ⟨_, vs, h1, h2, h3⟩ := fields_typed (cs := cs) ih fs.toList 0 (P.cellsOf t) hok.1 (fun f hf' => ⟨hok.2 f hf', by
          obtain ⟨i, hi⟩ := List.getElem?_of_mem hf'
          have hi' : fs[i]? = some f := by simpa using hi
          have := hf i f hi'
          have hlt := (Array.getElem?_eq_some_iff.1 hi').1
          rw [List.getElem?_eq_getElem (by omega)] at this
          refine ⟨_, this, fun w hwm => hw w (DataW.weights_mem_each (j := i) (t := f.type) (d := (xs[i]'(by omega)).1) ?_ ?_ w hwm)⟩
          · rw [List.getElem?_map]
            have : fs.toList[i]? = some f := hi
            rw [this]; rfl
          · rw [List.getElem?_map, List.getElem?_eq_getElem (by omega)]; rfl⟩)
        refine ⟨vs, by simpa using h1, ⟨by simpa using h1, fun f hf' => by simpa using (h2 f hf').2⟩, fun j c hj => by simpa using h3 j c hj⟩
      case array n e =>
        simp only [Bool.and_eq_true, beq_iff_eq] at hok
        obtain ⟨xs, m, e', hxe, hl, hlen, hf⟩ := DataW.trod_array hu h
        cases e'
        rw [hxe] at hw
        simp only [DataW.weights, hu] at hw
        obtain ⟨vs, h1, h2, h3⟩ := elems_typed (cs := cs) hok.2 ih n (fun i hi => by
          have := hf i hi
          rw [List.getElem?_eq_getElem (by omega)] at this
          exact ⟨_, this, fun w hwm => hw w (weights_all (List.mem_map.2 ⟨_, List.getElem_mem (by omega), rfl⟩) w hwm)⟩)
        exact ⟨vs, h1.trans hok.1, ⟨h1.trans hok.1, h2⟩, h3⟩
      case slice e =>
        simp only [Bool.and_eq_true, beq_iff_eq, decide_eq_true_eq] at hok
        obtain ⟨⟨hc1, he⟩, hpos⟩ := hok
        rcases DataW.trod_slice hu h with ⟨rfl, _⟩ | ⟨a, len, cap, elems, rest, n, en, rfl, hxe, _, hlc, hcm, hel, hee, hsp, _⟩
        · exact ⟨[.sl false (P.cellsOf e) []], by simp [hc1], ⟨[], by simp, by simp, by simp, rfl⟩, fun j c hj => by
            cases j with
            | zero => simp at hj; subst hj; exact ⟨_, rfl, rfl, rfl, .slNil false _⟩
            | succ j => simp at hj⟩
        · cases en
          rw [hxe] at hw
          simp only [DataW.weights, hu] at hw
          have hsz : len * P.bytesOf e ≤ B := by
            have := hw _ (List.mem_cons_self ..)
            simp only [List.length_map, hel] at this
            rw [Nat.add_mul] at this
            omega
          have each : ∀ i, i < len → ∃ r : List V, r.length = P.cellsOf e ∧ Typed P B d e r ∧ ∃ us, W.cells? 0 (a.add (i * P.cellsOf e)) (P.cellsOf e) = some us ∧ ∀ j c, r[j]? = some c → Good (bare W F G) us j c := fun i hi => by
            have := hee i hi
            rw [List.getElem?_eq_getElem (by omega)] at this
            obtain ⟨us, hus, hx⟩ := Option.bind_eq_some_iff.1 this
            obtain ⟨vs, h1, h2, h3⟩ := ih _ _ _ he hx (fun w hwm => hw w (List.mem_cons_of_mem _ (List.mem_append_left _ (weights_all (List.mem_map.2 ⟨_, List.getElem_mem (by omega), rfl⟩) w hwm))))
            exact ⟨vs, h1, h2, us, hus, h3⟩
          by_cases hcap : cap = 0
          · subst hcap
            have : len = 0 := by omega
            subst this
            exact ⟨[.sl false (P.cellsOf e) []], by simp [hc1], ⟨[], by simp, by simp, by simp, rfl⟩, fun j c hj => by
              cases j with
              | zero => simp at hj; subst hj; exact ⟨_, rfl, rfl, rfl, .slZ false _ a⟩
              | succ j => simp at hj⟩
          · -- the first element, or the first spare one, is there
            have hspot : a.spot = none := by
              have h0 : ∃ us, W.cells? 0 (a.add (0 * P.cellsOf e)) (P.cellsOf e) = some us := by
                by_cases hl0 : 0 < len
                · obtain ⟨_, _, _, us, hus, _⟩ := each 0 hl0
                  exact ⟨us, hus⟩
                · have hl : len = 0 := by omega
                  subst hl
                  have := (hsp rfl).2 0 (by omega)
                  rw [List.getElem?_eq_getElem (by have := (hsp rfl).1; omega)] at this
                  obtain ⟨us, hus, _⟩ := Option.bind_eq_some_iff.1 this
                  exact ⟨us, by simpa using hus⟩
              obtain ⟨us, hus⟩ := h0
              have hc := (World.cells?_some hus).2.2 0 hpos
              simp only [Nat.zero_mul, Addr.add, if_true] at hc
              unfold World.cell? at hc
              cases hb : W.heap[a.block]? with
              | none => rw [hb] at hc; simp at hc; have h2 := (World.cells?_some hus).2.1; rw [hc] at h2; simp at h2; omega
              | some o =>
                rw [hb] at hc
                cases hs : a.spot with
                | none => rfl
                | some z =>
                  exfalso
                  have hlen := (World.cells?_some hus).2.1
                  rw [List.getElem?_eq_getElem (by omega)] at hc
                  cases o <;> simp [hs] at hc
            obtain ⟨b, off, spot⟩ := a
            simp only at hspot
            subst hspot
            let row : Nat → List V := fun i => if hi : i < len then Classical.choose (each i hi) else []
            have hrow : ∀ i (hi : i < len), row i = Classical.choose (each i hi) := fun i hi => by simp only [row]; rw [dif_pos hi]
            let rows := (List.range len).map row
            have hrl : rows.length = len := by simp [rows]
            have hat : ∀ i j c, at2 rows i j = some c → i < len ∧ ∃ u, W.cell? ⟨b, off + i * P.cellsOf e + j, none⟩ = some u ∧ u.oneCell' = true ∧ c.closed = true ∧ R (bare W F G) c u := fun i j c hc => by
              unfold at2 at hc
              have hi : i < len := by
                by_cases hi : i < len
                · exact hi
                · rw [List.getElem?_eq_none (by omega)] at hc; cases hc
              refine ⟨hi, ?_⟩
              rw [List.getElem?_eq_getElem (by omega)] at hc
              simp only [rows, List.getElem_map, List.getElem_range, Option.bind_some] at hc
              rw [hrow i hi] at hc
              obtain ⟨q1, q2, us, hus, q3⟩ := Classical.choose_spec (each i hi)
              obtain ⟨u, hu1, hu2, hu3, hu4⟩ := q3 j c hc
              have hj : j < P.cellsOf e := by rw [← q1]; exact (List.getElem?_eq_some_iff.1 hc).1
              have hcell := (World.cells?_some hus).2.2 j hj
              refine ⟨u, ?_, hu2, hu3, hu4⟩
              rw [← hu1, ← hcell]
              congr 1
              simp only [Addr.add]
              split <;> split <;> simp_all <;> omega
            refine ⟨[.sl false (P.cellsOf e) rows], by simp [hc1], ⟨rows, by rw [hrl]; omega, by rw [hrl]; exact hsz, fun r hr => ?_, rfl⟩, fun j c hj => ?_⟩
            · obtain ⟨i, hi, rfl⟩ := List.mem_map.1 hr
              rw [List.mem_range] at hi
              rw [hrow i hi]
              obtain ⟨q1, q2, _⟩ := Classical.choose_spec (each i hi)
              exact ⟨q1, q2⟩
            · cases j with
              | succ j => simp at hj
              | zero =>
                simp at hj; subst hj
                refine ⟨_, rfl, rfl, rfl, ?_⟩
                have := R.sl (C := bare W F G) false (P.cellsOf e) rows b off cap (fun i j => (W.cell? ⟨b, off + i * P.cellsOf e + j, none⟩).getD undef) (by omega) hcm (fun r hr => by
                    obtain ⟨i, hi, rfl⟩ := List.mem_map.1 hr
                    rw [List.mem_range] at hi
                    rw [hrow i hi]
                    exact (Classical.choose_spec (each i hi)).1) (fun e => by cases e)
                  (fun i j c hc => by
                    obtain ⟨hi, u, h1, h2, _, _⟩ := hat i j c hc
                    simp only [bare, h1, Option.getD_some]
                    refine ⟨by trivial, hF _ _ ?_, h2⟩
                    unfold World.cell? at h1
                    cases hb : W.heap[b]? with
                    | none => rw [hb] at h1; cases h1
                    | some o => exact (Array.getElem?_eq_some_iff.1 hb).1)
                  (fun i j c hc => by obtain ⟨_, u, _, _, h3, _⟩ := hat i j c hc; exact h3)
                  (fun i j c hc => by obtain ⟨_, u, h1, _, _, h4⟩ := hat i j c hc; simp only [h1, Option.getD_some]; exact h4)
                rw [hrl] at this
                exact this
end
end Go.Ab
