/-
  The reckoning form says what the abstract machine says: operations, regions, control.
-/
import Derived.Test.YtleilicpggnemaaMachQ
import Derived.Laws.BitsLemmas
namespace Go.Ab
open Go

variable {P : Program} {d : Option Nat} {st : St} {K K' : St → Prop}

theorem binQ_sound {op : BinOp} {k : IntKind} {a b : Int} {K : V → Prop} {K' : V → Prop} (h : binQ op k a b K) (hK : ∀ s, K s → K' s) : binI op k a b K' := by
  cases op <;> first | exact h.elim | exact hK _ h.go | exact hK _ h.h | exact ⟨h.need, hK _ h.go⟩

theorem effQ_sound {o : O} (h : effQ P o d st K) (hK : ∀ s, K s → K' s) : eff P o d st K' := by
  cases o with
  | mv x => exact hK _ h
  | pick c a b =>
    simp only [effQ, eff] at h ⊢
    split at h
    · rename_i h1
      simp only [h1]
      split
      · rename_i e1 e2 e3; cases e1; simp only [cond_true]; rw [e2] at h; exact hK _ h
      · rename_i e1 _; cases e1; exact ⟨fun _ => hK _ h, (fun e => by cases e)⟩
      · simp_all
    · rename_i h1
      simp only [h1]
      split
      · rename_i e1 e2 e3; cases e1; simp only [cond_false]; rw [e3] at h; exact hK _ h
      · rename_i e1 _; cases e1; exact ⟨(fun e => by cases e), fun _ => hK _ h⟩
      · simp_all
    · exact h.elim
  | box x r => exact ⟨h.1, h.2.1, hK _ h.2.2⟩
  | alloc z r objs => exact ⟨h.1, h.2.1, hK _ h.2.2⟩
  | nil s r => exact ⟨h.1, hK _ h.2⟩
  | build z parts => exact ⟨h.1, hK _ h.2⟩
  | bsl s parts mode =>
    simp only [effQ, eff] at h ⊢
    split
    · cases mode with
      | none => exact hK _ h
      | some r => exact ⟨h.1, hK _ h.2⟩
    · rename_i hne
      split at h
      · exact absurd rfl hne
      · exact ⟨h.1, newSl_mono h.2 hK⟩
  | load agg n x =>
    simp only [effQ, eff] at h ⊢
    repeat' split at h
    all_goals first | exact h.elim | skip
    · rename_i h1 _ _ h2; (try simp only [h1, h2]); exact ⟨h.1, hK _ h.2⟩
    · rename_i h1 _ _ _ h2; (try simp only [h1, h2]); exact ⟨h.1, hK _ h.2⟩
    · rename_i h1; (try simp only [h1]); exact ⟨h.1, hK _ h.2⟩
  | store n x v =>
    simp only [effQ, eff] at h ⊢
    obtain ⟨a1, a2, h⟩ := h
    refine ⟨a1, a2, ?_⟩
    repeat' split at h
    all_goals first | exact h.elim | skip
    · rename_i h1 _ _ h2; (try simp only [h1, h2]); exact ⟨h.1, hK _ h.2⟩
    · rename_i h1 _ _ _ h2; (try simp only [h1, h2]); exact ⟨h.1, h.2.1, hK _ h.2.2⟩
  | faddr off x =>
    simp only [effQ, eff] at h ⊢
    split at h
    all_goals first | exact h.elim | (rename_i h1; (try simp only [h1]); exact hK _ h)
  | iaddr s len x i =>
    cases len with
    | none =>
      simp only [effQ, eff] at h ⊢
      repeat' split at h
      all_goals first | exact h.elim | skip
      · rename_i h1 _ _ _ _ h2; (try simp only [h1, h2]); exact ⟨h.need.1, h.need.2.1, h.need.2.2, hK _ h.go⟩
      · rename_i h1 _ _ _ _ h2 _ _ _ h3; (try simp only [h1, h2, h3]); exact ⟨h.need.1, h.need.2.1, h.need.2.2, hK _ h.go⟩
    | some l =>
      simp only [effQ, eff] at h ⊢
      split at h
      · rename_i h1
        (try simp only [h1])
        refine ⟨h.need.1, h.need.2, ?_⟩
        have h := h.go
        split at h
        all_goals first | exact h.elim | (rename_i h2; (try simp only [h2]); exact hK _ h)
      · exact h.elim
  | field agg off n x =>
    simp only [effQ, eff] at h ⊢
    split at h
    all_goals first | exact h.elim | (rename_i h1; (try simp only [h1]); exact ⟨h.1, hK _ h.2⟩)
  | index agg s len x i =>
    simp only [effQ, eff] at h ⊢
    split at h
    all_goals first | exact h.elim | (rename_i h1 h2; (try simp only [h1, h2]); exact ⟨h.1, h.2.1, h.2.2.1, hK _ h.2.2.2⟩)
  | sidx x i =>
    simp only [effQ, eff] at h ⊢
    split at h
    all_goals first | exact h.elim | (rename_i h1 h2; (try simp only [h1, h2]); exact ⟨h.1, h.2.1, hK _ h.2.2⟩)
  | ext k x =>
    simp only [effQ, eff] at h ⊢
    split at h
    all_goals first | exact h.elim | (rename_i h1; (try simp only [h1]); exact ⟨h.1, hK _ h.2⟩)
  | bin op x y =>
    simp only [effQ, eff] at h ⊢
    split at h
    all_goals first | exact h.elim | (rename_i h1 h2; (try simp only [h1, h2]); exact ⟨h.1, binQ_sound h.2 fun v => hK _⟩)
  | eqs ng x y =>
    simp only [effQ, eff] at h ⊢
    split at h
    all_goals first | exact h.elim | skip
    rename_i h1 h2; (try simp only [h1, h2])
    have := hK _ h.h
    cases ng <;> simpa using this
  | eqb ng x y =>
    simp only [effQ, eff] at h ⊢
    split at h
    all_goals first | exact h.elim | (rename_i h1 h2; (try simp only [h1, h2]); exact hK _ h)
  | eqa ng ks x y =>
    simp only [effQ, eff] at h ⊢
    split at h
    · rename_i h1 h2
      (try simp only [h1, h2])
      split at h
      · rename_i h3; (try simp only [h3]); exact hK _ h
      · exact h.elim
    · exact h.elim
  | not x =>
    simp only [effQ, eff] at h ⊢
    split at h
    all_goals first | exact h.elim | (rename_i h1; (try simp only [h1]); exact hK _ h)
  | neg x =>
    simp only [effQ, eff] at h ⊢
    split at h
    all_goals first | exact h.elim | (rename_i h1; (try simp only [h1]); exact hK _ h)
  | len x =>
    simp only [effQ, eff] at h ⊢
    split at h
    · rename_i h1; (try simp only [h1]); exact hK _ h.go
    · rename_i h1; (try simp only [h1]); exact hK _ h.go
    · rename_i h1; (try simp only [h1]); exact hK _ h
    · exact h.elim
  | slen x =>
    simp only [effQ, eff] at h ⊢
    split at h
    all_goals first | exact h.elim | (rename_i h1; (try simp only [h1]); exact hK _ h)
  | app s bytes x y mode =>
    simp only [effQ] at h
    split at h
    · rename_i h1; exact appQ_sound (by simp [h1, srcRows, h.1]) h.2 hK
    · rename_i h1; exact appQ_sound (by simp [h1, srcRows]) h hK
    · rename_i h1
      split at h
      · rename_i h2; exact appQ_sound (by simp [h1, srcRows, h2, h.1]) h.2.go hK
      · exact h.elim
    · exact h.elim
  | slice s x lo hi =>
    revert h
    have key : ∀ L : V, (match x.ev st, L with
      | .sl f s' rows, .int _ l => match hi with
        | none => s' = s ∧ Lt (fun _ => 0 ≤ l ∧ l ≤ rows.length) (fun _ => rows.drop l.toNat) fun rows => K (st.put d (.sl f s rows))
        | some h => match h.ev st with
          | .int _ h => s' = s ∧ Lt (fun _ => 0 ≤ l ∧ l ≤ h ∧ h ≤ rows.length) (fun _ => (rows.take h.toNat).drop l.toNat) fun rows => K (st.put d (.sl f s rows))
          | _ => False
      | .sref r i n, .int _ l => match st.heap r, (match hi with | none => V.int .i64 n | some h => h.ev st) with
        | .rows s' _, .int _ h => s' = s ∧ Lt (fun _ => 0 ≤ l ∧ l ≤ h ∧ h ≤ n) (fun _ => (i + l.toNat, h.toNat - l.toNat)) fun p => K (st.put d (.sref r p.1 p.2))
        | _, _ => False
      | _, _ => False) → (match x.ev st, L with
      | .sl f s' rows, .int _ l => match (match hi with | none => V.int .i64 rows.length | some h => h.ev st) with
        | .int _ h => s' = s ∧ 0 ≤ l ∧ l ≤ h ∧ h ≤ rows.length ∧ K' (st.put d (.sl f s ((rows.take h.toNat).drop l.toNat)))
        | _ => False
      | .sref r i n, .int _ l => match st.heap r, (match hi with | none => V.int .i64 n | some h => h.ev st) with
        | .rows s' _, .int _ h => s' = s ∧ 0 ≤ l ∧ l ≤ h ∧ h ≤ n ∧ K' (st.put d (.sref r (i + l.toNat) (h.toNat - l.toNat)))
        | _, _ => False
      | _, _ => False) := by
      intro L h
      generalize x.ev st = X at h ⊢
      cases X <;> first | exact h.elim | skip
      · cases L <;> first | exact h.elim | skip
        rename_i r i n _ l
        simp only at h ⊢
        generalize (match hi with | none => V.int .i64 n | some h => h.ev st) = H at h ⊢
        generalize st.heap r = O at h ⊢
        cases O <;> first | exact h.elim | skip
        cases H <;> first | exact h.elim | exact ⟨h.1, h.2.need.1, h.2.need.2.1, h.2.need.2.2, hK _ h.2.go⟩
      · cases L <;> first | exact h.elim | skip
        cases hi with
        | none =>
          obtain ⟨a, b, c⟩ := h
          refine ⟨a, b.1, b.2, Int.le_refl _, ?_⟩
          have := hK _ c
          simpa using this
        | some hh =>
          simp only at h ⊢
          generalize hh.ev st = H at h ⊢
          cases H <;> first | exact h.elim | exact ⟨h.1, h.2.need.1, h.2.need.2.1, h.2.need.2.2, hK _ h.2.go⟩
    exact fun h => key _ h
  | sslice x lo hi =>
    revert h
    have key : ∀ L : V, (match x.ev st, L with
      | .str b, .int _ l => match (match hi with | none => V.int .i64 b.size | some h => h.ev st) with
        | .int _ h => 0 ≤ l ∧ l ≤ h ∧ h ≤ b.size ∧ K (st.put d (.str (b.extract l.toNat h.toNat)))
        | _ => False
      | _, _ => False) → (match x.ev st, L with
      | .str b, .int _ l => match (match hi with | none => V.int .i64 b.size | some h => h.ev st) with
        | .int _ h => 0 ≤ l ∧ l ≤ h ∧ h ≤ b.size ∧ K' (st.put d (.str (b.extract l.toNat h.toNat)))
        | _ => False
      | _, _ => False) := by
      intro L h
      generalize x.ev st = X at h ⊢
      cases X <;> first | exact h.elim | skip
      cases L <;> first | exact h.elim | skip
      rename_i b _ l
      simp only at h ⊢
      generalize (match hi with | none => V.int .i64 b.size | some h => h.ev st) = H at h ⊢
      cases H <;> first | exact h.elim | exact ⟨h.1, h.2.1, h.2.2.1, hK _ h.2.2.2⟩
    exact fun h => key _ h
  | mks s bytes z n mode =>
    simp only [effQ, eff] at h ⊢
    split at h
    · rename_i h1; (try simp only [h1]); exact ⟨h.need.1, h.need.2.1, h.need.2.2, newQ_sound h.go hK⟩
    · exact h.elim
  | mkf f first caps => exact hK _ h
  | max x y =>
    simp only [effQ, eff] at h ⊢
    split at h
    all_goals first | exact h.elim | (rename_i h1 h2; (try simp only [h1, h2]); exact ⟨h.1, hK _ h.2⟩)
  | min x y =>
    simp only [effQ, eff] at h ⊢
    split at h
    all_goals first | exact h.elim | (rename_i h1 h2; (try simp only [h1, h2]); exact ⟨h.1, hK _ h.2⟩)
  | call f args objs => exact callQ_sound h hK
  | calln x args objs =>
    simp only [effQ, eff] at h ⊢
    split at h
    · rename_i h1; (try simp only [h1]); exact ⟨h.1, h.2.1, h.2.2.1, call_mono h.2.2.2 hK⟩
    · exact h.elim
  | loadb n x =>
    simp only [effQ, eff] at h ⊢
    repeat' split at h
    all_goals first | exact h.elim | skip
    rename_i h1 _ _ h2; (try simp only [h1, h2]); exact ⟨h.1, hK _ h.2⟩
  | nilchk x =>
    simp only [effQ, eff] at h ⊢
    split at h
    all_goals first | exact h.elim | (rename_i h1; (try simp only [h1]); exact hK _ h)

/-- An operation behind its guard. -/
def effGQ (P : Program) (o : Op') (st : St) (K : St → Prop) : Prop :=
  match o.guard with
  | none => effQ P o.op o.dst st K
  | some (t, w) => match st.env t, w with
    | .bool true, true => effQ P o.op o.dst st K
    | .bool false, false => effQ P o.op o.dst st K
    | .bool true, false => K (st.put o.dst (.tup []))
    | .bool false, true => K (st.put o.dst (.tup []))
    | .tup [], _ => K (st.put o.dst (.tup []))
    | _, _ => False

theorem effGQ_sound {o : Op'} (h : effGQ P o st K) (hK : ∀ s, K s → K' s) : effG P o st K' := by
  unfold effGQ at h
  unfold effG
  split at h
  · rename_i h1; simp only [h1]; exact effQ_sound h hK
  · rename_i t w h1
    simp only [h1]
    split at h
    · rename_i hb; simp only [hb]; exact ⟨fun _ => by rw [put_self hb]; exact effQ_sound h hK, fun e => by cases e⟩
    · rename_i hb; simp only [hb]; exact ⟨fun _ => by rw [put_self hb]; exact effQ_sound h hK, fun e => by cases e⟩
    · rename_i hb; simp only [hb]; exact ⟨(fun e => by cases e), fun _ => by rw [Bool.not_false, put_self hb]; exact hK _ h⟩
    · rename_i hb; simp only [hb]; exact ⟨(fun e => by cases e), fun _ => by rw [Bool.not_true, put_self hb]; exact hK _ h⟩
    · rename_i hb; simp only [hb]; exact hK _ h
    · exact h.elim

def opsQ (P : Program) : List Op' → St → (St → Prop) → Prop
  | [], st, K => K st
  | o :: l, st, K => effGQ P o st fun st' => opsQ P l st' K

theorem opsQ_sound : ∀ {l : List Op'} {st : St} {K K' : St → Prop}, opsQ P l st K → (∀ s, K s → K' s) → wpOps P l st K'
  | [], _, _, _, h, hK => hK _ h
  | _ :: _, _, _, _, h, hK => effGQ_sound h fun _ h' => opsQ_sound h' hK

/-- Is an operation, in this state, of class 1? A computation. -/
def quietB (o : Op') (st : St) : Bool :=
  match o.op with
  | .store _ _ _ => false
  | .app _ _ x _ _ => match x.ev st with | .nils _ => true | _ => false
  | .call _ args _ => args.all Pm.isRo
  | .calln _ args _ => args.all Pm.isRo
  | _ => true
theorem quietB_iff {o : Op'} (h : quietB o st = true) : quiet o st := by
  obtain ⟨d, o, g⟩ := o
  cases o with
  | store n x v => simp [quietB] at h
  | app s b x y m =>
    simp only [quietB] at h
    split at h
    · rename_i h2; exact ⟨_, h2⟩
    · cases h
  | call f args objs => exact h
  | calln x args objs => exact h
  | _ => trivial

def opsQD (P : Program) : List (Op' × Nat) → St → (St → Prop) → Prop
  | [], st, K => K st
  | o :: l, st, K => match (match o.2 with | 1 => quietB o.1 st | _ => true) with
    | true => effGQ P o.1 st fun st' => opsQD P l st' K
    | false => False

theorem opsQD_sound : ∀ {l : List (Op' × Nat)} {st : St} {K K' : St → Prop}, opsQD P l st K → (∀ s, K s → K' s) → wpOpsD P l st K'
  | [], _, _, _, h, hK => hK _ h
  | _ :: _, _, _, _, h, hK => by
    simp only [opsQD] at h
    split at h
    · rename_i h1
      exact ⟨fun e => by rw [e] at h1; exact quietB_iff h1, effGQ_sound h fun _ h' => opsQD_sound h' hK⟩
    · exact h.elim

/-- A place where one says what is known. -/
structure Join (c : (St → Prop) → Prop) (k : St → Prop) : Prop where
  h : ∃ J : St → Prop, c J ∧ ∀ st, J st → k st
/-- A loop. 'body st A': from st, a round; A: what is to hold where it goes on. -/
structure LoopQ (st : St) (body : St → (St → Prop) → Prop) : Prop where
  h : ∃ (I : St → Nat → Prop) (m : Nat), I st m ∧ ∀ st m, I st m → body st fun st' => ∃ m', m' < m ∧ I st' m'

/-- The loop's rule: its states, by an index. -/
theorem LoopQ.to {ι : Type} {st : St} {body : St → (St → Prop) → Prop} (S : ι → St) (ok : ι → Prop) (mu : ι → Nat) (i0 : ι) (h0 : ok i0) (e0 : st = S i0)
    (round : ∀ i, ok i → ∀ A : St → Prop, (∀ j st', ok j → mu j < mu i → st' = S j → A st') → body (S i) A) : LoopQ st body :=
  ⟨fun st m => ∃ i, ok i ∧ st = S i ∧ m = mu i, mu i0, ⟨i0, h0, e0, rfl⟩, fun st m ⟨i, hi, e1, e2⟩ => by
    subst e1 e2
    exact round i hi _ fun j st' hj hlt e => ⟨mu j, hlt, j, hj, e, rfl⟩⟩

def codeQ (P : Program) : C → St → (St → Prop) → (Nat → St → Prop) → (St → Prop) → Prop
  | .skip, st, N, _, _ => N st
  | .ret, st, _, _, R => R st
  | .exit id, st, _, X, _ => X id st
  | .reg names ops, st, N, _, _ => opsQ P ops (st.kills names) N
  | .regd names ops, st, N, _, _ => opsQD P ops (st.kills names) N
  | .seq a b, st, N, X, R => codeQ P a st (fun st => codeQ P b st N X R) X R
  | .cond x a b, st, N, X, R => match x.ev st with
    | .bool true => codeQ P a st N X R
    | .bool false => codeQ P b st N X R
    | _ => False
  | .blk id b, st, N, X, R => codeQ P b st N (fun i st => bif Nat.beq i id then N st else X i st) R
  | .loop keep objs b, st, _, X, R => LoopQ (st.keep keep objs) fun st A => codeQ P b st (fun st => A (st.keep keep objs)) X R
  | .fgt stop keep objs b, st, N, X, R => match stop with
    | false => codeQ P b st (fun st => N (st.keep keep objs)) X R
    | true => Join (fun J => codeQ P b st (fun st => J (st.keep keep objs)) X R) N

theorem codeQ_sound : ∀ {c : C} {st : St} {N : St → Prop} {X : Nat → St → Prop} {R : St → Prop} {Q : Ex → St → Prop}, codeQ P c st N X R → (∀ s, N s → Q .normal s) → (∀ i s, X i s → Q (.exit i) s) → (∀ s, R s → Q .ret s) → wpC P c st Q
  | .skip, _, _, _, _, _, h, hN, _, _ => hN _ h
  | .ret, _, _, _, _, _, h, _, _, hR => hR _ h
  | .exit _, _, _, _, _, _, h, _, hX, _ => hX _ _ h
  | .reg _ _, _, _, _, _, _, h, hN, _, _ => opsQ_sound h fun _ h' => hN _ h'
  | .regd _ _, _, _, _, _, _, h, hN, _, _ => opsQD_sound h fun _ h' => hN _ h'
  | .seq a b, _, _, _, _, _, h, hN, hX, hR => codeQ_sound (c := a) h (fun _ h' => codeQ_sound (c := b) h' hN hX hR) hX hR
  | .cond x a b, st, _, _, _, _, h, hN, hX, hR => by
    simp only [codeQ] at h
    simp only [wpC]
    split at h
    · rename_i h1; simp only [h1]; exact ⟨fun e => codeQ_sound h hN hX hR, fun e => by cases e⟩
    · rename_i h1; simp only [h1]; exact ⟨(fun e => by cases e), fun e => codeQ_sound h hN hX hR⟩
    · exact h.elim
  | .blk id b, _, _, _, _, _, h, hN, hX, hR => codeQ_sound (c := b) h (fun _ h' => hN _ h') (fun i _ h' => by
      simp only at h' ⊢
      by_cases e : i = id
      · subst e
        rw [if_pos rfl]
        simp only [Nat.beq_refl, cond_true] at h'
        exact hN _ h'
      · rw [if_neg e]
        have : Nat.beq i id = false := by cases hb : Nat.beq i id with | true => exact (e (Nat.eq_of_beq_eq_true hb)).elim | false => rfl
        rw [this] at h'
        exact hX _ _ h') hR
  | .loop keep objs b, st, _, _, _, _, h, _, hX, hR => by
    obtain ⟨I, m, h0, hr⟩ := h
    exact ⟨I, ⟨m, h0⟩, fun st m hI => codeQ_sound (c := b) (hr st m hI) (fun _ h' => h') hX hR⟩
  | .fgt stop keep objs b, st, _, _, _, _, h, hN, hX, hR => by
    cases stop with
    | false => exact codeQ_sound (c := b) h (fun _ h' => hN _ h') hX hR
    | true =>
      obtain ⟨J, h1, h2⟩ := h
      exact codeQ_sound (c := b) h1 (fun _ h' => hN _ (h2 _ h')) hX hR

theorem Join.to {c : (St → Prop) → Prop} {k : St → Prop} (J : St → Prop) (h : c J) (h' : ∀ st, J st → k st) : Join c k := ⟨J, h, h'⟩

theorem Lt.len {n : Nat} {K : Int → Prop} (k : ∀ v : Int, 0 ≤ v ∧ v.toNat = n → K v) : Lt (fun _ => True) (fun _ => (n : Int)) K := ⟨trivial, k _ ⟨by omega, by omega⟩⟩
theorem Lt.wr {z : Int} {K : Int → Prop} (h : -9223372036854775808 ≤ z) (h' : z < 9223372036854775808) (k : ∀ v, v = z → K v) : Lt (fun _ => True) (fun _ => IntKind.i64.wrap z) K :=
  ⟨trivial, k _ (by rw [IntKind.wrap_i64]; omega)⟩
theorem Lt.rem {a b : Int} {K : Int → Prop} (h : 0 ≤ a) (h' : 0 < b) (k : ∀ v, v = a % b → K v) : Lt (fun _ => b ≠ 0) (fun _ => a.tmod b) K :=
  ⟨by omega, k _ (Int.tmod_eq_emod_of_nonneg h)⟩
theorem Lt.quo {a b : Int} {K : Int → Prop} (h : 0 ≤ a) (h2 : a < 9223372036854775808) (h' : 0 < b) (k : ∀ v, v = a / b → K v) : Lt (fun _ => b ≠ 0) (fun _ => IntKind.i64.wrap (a.tdiv b)) K := by
  have h3 : 0 ≤ a / b := Int.ediv_nonneg h (by omega)
  have h4 : a / b ≤ a := Int.ediv_le_self _ h
  exact ⟨by omega, k _ (by rw [Int.tdiv_eq_ediv_of_nonneg h, IntKind.wrap_i64]; omega)⟩

/-- What a call does, out of its text's reckoning. -/
theorem callsV_q {P : Program} (hD : RegD P) {f : FuncId} {fn : Func} (hf : P.funcs[f]? = some fn) {t : FnT} (hok : okFn P fn t = true) {args : List V} {res : V} {outs : List V} {fr : Bool}
    (hl : args.length = t.k) (hio : iosOk t.pins 0 args = true) (hsh : args.map V.sh = args)
    (h : ∀ (P' : Program) (R : St → Prop), P' = P → (∀ st, Leave args t.rvs res outs fr st → R st) → codeQ P' t.body (St.enter args t.ns) R (fun _ _ => False) R) : CallsV P f args res outs fr :=
  callsV_fn hD hf hok hl hio hsh (codeQ_sound (h P (fun st => Leave args t.rvs res outs fr st) rfl fun _ h => h) (fun _ h => ⟨.inl rfl, h⟩) (fun _ _ h => h.elim) (fun _ h => ⟨.inr rfl, h⟩))
end Go.Ab
