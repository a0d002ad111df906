/-
  What follows an operation may be weakened.
-/
import Derived.Test.YtleilicpggnemaaMachB
namespace Go.Ab
open Go

variable {P : Program} {d : Option Nat} {st : St} {K K' : St → Prop}

theorem newSl_mono {s : Nat} {rows : List (List V)} {mode : Option Nat} (h : newSl s rows mode d st K) (hK : ∀ s, K s → K' s) : newSl s rows mode d st K' := by
  unfold newSl at *
  split
  · exact hK _ h
  · exact ⟨h.1, hK _ h.2⟩

theorem call_mono {f : FuncId} {args : List Pm} {objs : List Nat} (h : call P f args objs d st K) (hK : ∀ s, K s → K' s) : call P f args objs d st K' := by
  obtain ⟨a, b, c, e, res, outs, fr, h1, h2, h3, h4⟩ := h
  exact ⟨a, b, c, e, res, outs, fr, h1, h2, h3, hK _ h4⟩

theorem binI_mono {op : BinOp} {k : IntKind} {a b : Int} {K K' : V → Prop} (h : binI op k a b K) (hK : ∀ s, K s → K' s) : binI op k a b K' := by
  cases op <;> first | exact h.elim | exact hK _ h | exact ⟨h.1, hK _ h.2⟩

theorem eff_mono {o : O} (h : eff P o d st K) (hK : ∀ s, K s → K' s) : eff P o d st K' := by
  cases o with
  | mv x => exact hK _ h
  | pick c a b =>
    simp only [eff] at h ⊢
    generalize c.ev st = C at h ⊢
    generalize a.ev st = A at h ⊢
    generalize b.ev st = B at h ⊢
    cases C <;> first | exact h.elim | skip
    cases A <;> cases B <;> first | exact ⟨fun e => hK _ (h.1 e), fun e => hK _ (h.2 e)⟩ | exact hK _ h
  | box x r => exact ⟨h.1, h.2.1, hK _ h.2.2⟩
  | alloc z r objs => exact ⟨h.1, h.2.1, hK _ h.2.2⟩
  | nil s r => exact ⟨h.1, hK _ h.2⟩
  | build z parts => exact ⟨h.1, hK _ h.2⟩
  | bsl s parts mode =>
    cases parts with
    | nil =>
      cases mode with
      | none => exact hK _ h
      | some r => exact ⟨h.1, hK _ h.2⟩
    | cons p l => exact ⟨h.1, newSl_mono h.2 hK⟩
  | load agg n x =>
    simp only [eff] at h ⊢
    repeat' split at h
    all_goals first | exact h.elim | exact ⟨h.1, hK _ h.2⟩
  | store n x v =>
    simp only [eff] at h ⊢
    obtain ⟨a1, a2, h⟩ := h
    refine ⟨a1, a2, ?_⟩
    repeat' split at h
    all_goals first | exact h.elim | exact ⟨h.1, hK _ h.2⟩ | exact ⟨h.1, h.2.1, hK _ h.2.2⟩
  | loadb n x =>
    simp only [eff] at h ⊢
    repeat' split at h
    all_goals first | exact h.elim | exact ⟨h.1, hK _ h.2⟩
  | faddr off x =>
    simp only [eff] at h ⊢
    split at h
    all_goals first | exact h.elim | exact hK _ h
  | iaddr s len x i =>
    simp only [eff] at h ⊢
    generalize i.ev st = I at h ⊢
    cases I <;> first | exact h.elim | skip
    cases len with
    | none =>
      simp only at h ⊢
      repeat' split at h
      all_goals first | exact h.elim | exact ⟨h.1, h.2.1, h.2.2.1, hK _ h.2.2.2⟩
    | some l =>
      refine ⟨h.1, h.2.1, ?_⟩
      have h := h.2.2
      split at h
      all_goals first | exact h.elim | exact hK _ h
  | field agg off n x =>
    simp only [eff] at h ⊢
    split at h
    all_goals first | exact h.elim | exact ⟨h.1, hK _ h.2⟩
  | index agg s len x i =>
    simp only [eff] at h ⊢
    generalize x.ev st = X at h ⊢
    generalize i.ev st = I at h ⊢
    cases X <;> first | exact h.elim | skip
    cases I <;> first | exact h.elim | exact ⟨h.1, h.2.1, h.2.2.1, hK _ h.2.2.2⟩
  | sidx x i =>
    simp only [eff] at h ⊢
    generalize x.ev st = X at h ⊢
    generalize i.ev st = I at h ⊢
    cases X <;> first | exact h.elim | skip
    cases I <;> first | exact h.elim | exact ⟨h.1, h.2.1, hK _ h.2.2⟩
  | ext k x =>
    simp only [eff] at h ⊢
    split at h
    all_goals first | exact h.elim | exact ⟨h.1, hK _ h.2⟩
  | bin op x y =>
    simp only [eff] at h ⊢
    generalize x.ev st = X at h ⊢
    generalize y.ev st = Y at h ⊢
    cases X <;> first | exact h.elim | skip
    cases Y <;> first | exact h.elim | exact ⟨h.1, binI_mono h.2 fun v => hK _⟩
  | eqs ng x y =>
    simp only [eff] at h ⊢
    generalize x.ev st = X at h ⊢
    generalize y.ev st = Y at h ⊢
    cases X <;> first | exact h.elim | skip
    cases Y <;> first | exact h.elim | exact hK _ h
  | eqb ng x y =>
    simp only [eff] at h ⊢
    generalize x.ev st = X at h ⊢
    generalize y.ev st = Y at h ⊢
    cases X <;> first | exact h.elim | skip
    cases Y <;> first | exact h.elim | exact hK _ h
  | eqa ng ks x y =>
    simp only [eff] at h ⊢
    generalize x.ev st = X at h ⊢
    generalize y.ev st = Y at h ⊢
    cases X <;> first | exact h.elim | skip
    cases Y <;> first | exact h.elim | skip
    rename_i a b
    simp only at h ⊢
    generalize eqK ks a b = E at h ⊢
    cases E <;> first | exact h.elim | exact hK _ h
  | not x =>
    simp only [eff] at h ⊢
    split at h
    all_goals first | exact h.elim | exact hK _ h
  | neg x =>
    simp only [eff] at h ⊢
    split at h
    all_goals first | exact h.elim | exact hK _ h
  | len x =>
    simp only [eff] at h ⊢
    split at h
    all_goals first | exact h.elim | exact hK _ h
  | slen x =>
    simp only [eff] at h ⊢
    split at h
    all_goals first | exact h.elim | exact hK _ h
  | app s bytes x y mode =>
    simp only [eff] at h ⊢
    split at h
    · exact h.elim
    · split at h
      · exact ⟨h.1, newSl_mono h.2 hK⟩
      · split at h
        · obtain ⟨h1, h2, h3, h4, h5⟩ := h
          refine ⟨h1, h2, h3, h4, ?_⟩
          cases mode with
          | none => exact hK _ h5
          | some r' => exact ⟨h5.1, hK _ h5.2⟩
        · exact h.elim
      · exact h.elim
  | slice s x lo hi =>
    revert h
    have key : ∀ L : V, (match x.ev st, L with
      | .sl f s' rows, .int _ l => match (match hi with | none => V.int .i64 rows.length | some h => h.ev st) with
        | .int _ h => s' = s ∧ 0 ≤ l ∧ l ≤ h ∧ h ≤ rows.length ∧ K (st.put d (.sl f s ((rows.take h.toNat).drop l.toNat)))
        | _ => False
      | .sref r i n, .int _ l => match st.heap r, (match hi with | none => V.int .i64 n | some h => h.ev st) with
        | .rows s' _, .int _ h => s' = s ∧ 0 ≤ l ∧ l ≤ h ∧ h ≤ n ∧ K (st.put d (.sref r (i + l.toNat) (h.toNat - l.toNat)))
        | _, _ => False
      | _, _ => False) → (match x.ev st, L with
      | .sl f s' rows, .int _ l => match (match hi with | none => V.int .i64 rows.length | some h => h.ev st) with
        | .int _ h => s' = s ∧ 0 ≤ l ∧ l ≤ h ∧ h ≤ rows.length ∧ K' (st.put d (.sl f s ((rows.take h.toNat).drop l.toNat)))
        | _ => False
      | .sref r i n, .int _ l => match st.heap r, (match hi with | none => V.int .i64 n | some h => h.ev st) with
        | .rows s' _, .int _ h => s' = s ∧ 0 ≤ l ∧ l ≤ h ∧ h ≤ n ∧ K' (st.put d (.sref r (i + l.toNat) (h.toNat - l.toNat)))
        | _, _ => False
      | _, _ => False) := by
      intro L h
      generalize x.ev st = X at h ⊢
      cases X <;> first | exact h.elim | skip
      · cases L <;> first | exact h.elim | skip
        rename_i r i n _ l
        simp only at h ⊢
        generalize (match hi with | none => V.int .i64 n | some h => h.ev st) = H at h ⊢
        generalize st.heap r = O at h ⊢
        cases O <;> first | exact h.elim | skip
        cases H <;> first | exact h.elim | exact ⟨h.1, h.2.1, h.2.2.1, h.2.2.2.1, hK _ h.2.2.2.2⟩
      · cases L <;> first | exact h.elim | skip
        rename_i f s' rows _ l
        simp only at h ⊢
        generalize (match hi with | none => V.int .i64 rows.length | some h => h.ev st) = H at h ⊢
        cases H <;> first | exact h.elim | exact ⟨h.1, h.2.1, h.2.2.1, h.2.2.2.1, hK _ h.2.2.2.2⟩
    exact fun h => key _ h
  | sslice x lo hi =>
    revert h
    have key : ∀ L : V, (match x.ev st, L with
      | .str b, .int _ l => match (match hi with | none => V.int .i64 b.size | some h => h.ev st) with
        | .int _ h => 0 ≤ l ∧ l ≤ h ∧ h ≤ b.size ∧ K (st.put d (.str (b.extract l.toNat h.toNat)))
        | _ => False
      | _, _ => False) → (match x.ev st, L with
      | .str b, .int _ l => match (match hi with | none => V.int .i64 b.size | some h => h.ev st) with
        | .int _ h => 0 ≤ l ∧ l ≤ h ∧ h ≤ b.size ∧ K' (st.put d (.str (b.extract l.toNat h.toNat)))
        | _ => False
      | _, _ => False) := by
      intro L h
      generalize x.ev st = X at h ⊢
      cases X <;> first | exact h.elim | skip
      cases L <;> first | exact h.elim | skip
      rename_i b _ l
      simp only at h ⊢
      generalize (match hi with | none => V.int .i64 b.size | some h => h.ev st) = H at h ⊢
      cases H <;> first | exact h.elim | exact ⟨h.1, h.2.1, h.2.2.1, hK _ h.2.2.2⟩
    exact fun h => key _ h
  | mks s bytes z n mode =>
    simp only [eff] at h ⊢
    generalize n.ev st = N at h ⊢
    cases N <;> first | exact h.elim | skip
    rename_i k m
    cases k <;> first | exact h.elim | exact ⟨h.1, h.2.1, h.2.2.1, newSl_mono h.2.2.2 hK⟩
  | mkf f first caps => exact hK _ h
  | max x y =>
    simp only [eff] at h ⊢
    generalize x.ev st = X at h ⊢
    generalize y.ev st = Y at h ⊢
    cases X <;> first | exact h.elim | skip
    cases Y <;> first | exact h.elim | exact ⟨h.1, hK _ h.2⟩
  | min x y =>
    simp only [eff] at h ⊢
    generalize x.ev st = X at h ⊢
    generalize y.ev st = Y at h ⊢
    cases X <;> first | exact h.elim | skip
    cases Y <;> first | exact h.elim | exact ⟨h.1, hK _ h.2⟩
  | call f args objs => exact call_mono h hK
  | calln x args objs =>
    simp only [eff] at h ⊢
    split at h
    · exact ⟨h.1, h.2.1, h.2.2.1, call_mono h.2.2.2 hK⟩
    · exact h.elim
  | nilchk x =>
    simp only [eff] at h ⊢
    split at h
    all_goals first | exact h.elim | exact hK _ h

theorem effG_mono {o : Op'} (h : effG P o st K) (hK : ∀ s, K s → K' s) : effG P o st K' := by
  unfold effG at h ⊢
  cases hg : o.guard with
  | none => rw [hg] at h; exact eff_mono h hK
  | some x =>
    obtain ⟨t, w⟩ := x
    rw [hg] at h
    simp only at h ⊢
    generalize st.env t = T at h ⊢
    cases T <;> first | exact h.elim | exact ⟨fun e => eff_mono (h.1 e) hK, fun e => hK _ (h.2 e)⟩ | skip
    rename_i vs
    cases vs <;> first | exact h.elim | exact hK _ h

theorem wpOpsD_mono : ∀ {l : List (Op' × Nat)} {st : St} {K K' : St → Prop}, wpOpsD P l st K → (∀ s, K s → K' s) → wpOpsD P l st K'
  | [], _, _, _, h, hK => hK _ h
  | _ :: _, _, _, _, h, hK => ⟨h.1, effG_mono h.2 fun _ h' => wpOpsD_mono h' hK⟩

theorem wpOpsD_append : ∀ {l m : List (Op' × Nat)} {st : St} {K : St → Prop}, wpOpsD P (l ++ m) st K ↔ wpOpsD P l st fun s => wpOpsD P m s K
  | [], _, _, _ => Iff.rfl
  | _ :: _, _, _, _ => ⟨fun h => ⟨h.1, effG_mono h.2 fun _ h' => wpOpsD_append.1 h'⟩, fun h => ⟨h.1, effG_mono h.2 fun _ h' => wpOpsD_append.2 h'⟩⟩
end Go.Ab
