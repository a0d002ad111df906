/-
  Each operation of the abstract machine is what the model's operation does: equality.
-/
import Derived.Test.YtleilicpggnemaaMachS11
import Derived.ChangeKeysEq
import Derived.Laws.StructEq
namespace Go.Ab
open Go

variable {E : Ent} {n : Sz} {C : Ctx} {st : St} {a : Act} {P : Program}

/-- Two cells of one kind. -/
def kindOk (k : Nat) (u v : Value) : Prop :=
  (k = 0 ∧ ∃ q a b, u = .int q a ∧ v = .int q b) ∨ (k = 1 ∧ ∃ a b, u = .bool a ∧ v = .bool b) ∨ (k = 2 ∧ ∃ a b, u = .string a ∧ v = .string b)
def eqv : Value → Value → Bool
  | .int _ a, .int _ b => a == b
  | .bool a, .bool b => a == b
  | .string a, .string b => a.toList == b.toList
  | _, _ => false
def eqvs : List Value → List Value → Bool
  | u :: us, v :: vs => eqv u v && eqvs us vs
  | _, _ => true
def kindsOk : List Nat → List Value → List Value → Prop
  | [], [], [] => True
  | k :: ks, u :: us, v :: vs => kindOk k u v ∧ kindsOk ks us vs
  | _, _, _ => False

theorem kindsOk_len : ∀ {ks : List Nat} {us vs : List Value}, kindsOk ks us vs → us.length = ks.length ∧ vs.length = ks.length
  | [], [], [], _ => ⟨rfl, rfl⟩
  | k :: ks, u :: us, v :: vs, h => by obtain ⟨h1, h2⟩ := kindsOk_len h.2; exact ⟨by simp [h1], by simp [h2]⟩
  | [], _ :: _, _, h => h.elim
  | [], [], _ :: _, h => h.elim
  | _ :: _, [], _, h => h.elim
  | _ :: _, _ :: _, [], h => h.elim

theorem kindsOk_append : ∀ {ks ks' : List Nat} {us vs : List Value}, kindsOk (ks ++ ks') us vs → kindsOk ks (us.take ks.length) (vs.take ks.length) ∧ kindsOk ks' (us.drop ks.length) (vs.drop ks.length)
  | [], ks', us, vs, h => ⟨by simp [kindsOk], by simpa using h⟩
  | k :: ks, ks', u :: us, v :: vs, h => by
    obtain ⟨h1, h2⟩ := h
    obtain ⟨i1, i2⟩ := kindsOk_append h2
    exact ⟨⟨h1, i1⟩, i2⟩
  | _ :: _, _, [], _, h => h.elim
  | _ :: _, _, _ :: _, [], h => h.elim

theorem eqvs_split : ∀ (k : Nat) (us vs : List Value), us.length = vs.length → eqvs us vs = (eqvs (us.take k) (vs.take k) && eqvs (us.drop k) (vs.drop k))
  | 0, us, vs, _ => by simp [eqvs]
  | k + 1, [], [], _ => by simp [eqvs]
  | k + 1, u :: us, v :: vs, h => by
    have := eqvs_split k us vs (by simpa using h)
    simp only [eqvs, List.take_succ_cons, List.drop_succ_cons, this, Bool.and_assoc]
  | _ + 1, [], _ :: _, h => by simp at h
  | _ + 1, _ :: _, [], h => by simp at h

/-- A value out of its cells. -/
def mkv (P : Program) (t : TypeId) (us : List Value) : Value := if rowOk P t true then .agg us.toArray else us.getD 0 undef

theorem run_part_mkv {t k off : Nat} (hs : szOk P t k = true) (hr : rowOk P t true = true ∨ (rowOk P t false = true ∧ k = 1)) {us : List Value} (hk : off + k ≤ us.length) (w : World) :
    (part t us.toArray off).run P w = .ok (mkv P t ((us.drop off).take k)) w := by
  unfold mkv
  rcases hr with hr | ⟨hr, rfl⟩
  · rw [run_part hs hr rfl hk w]; simp [hr]
  · have : rowOk P t true = false := by
      obtain ⟨d, hu, hd⟩ := rowOk_spec hr
      unfold rowOk; rw [hu]; cases d <;> simp_all
    rw [run_part hs hr rfl hk w, this]
    simp [List.getElem?_drop]

theorem leaves_row : ∀ {d t : Nat} {ks : List Nat}, leaves P d t = some ks → rowOk P t true = true ∨ (rowOk P t false = true ∧ ks.length = 1)
  | 0, _, _, h => by simp [leaves] at h
  | d + 1, t, ks, h => by
    unfold leaves at h
    unfold rowOk
    cases hu : P.underlying t with
    | none => simp [hu] at h
    | some k =>
      rw [hu] at h
      cases k <;> simp only [Option.some.injEq, reduceCtorEq] at h
      all_goals first | exact .inl rfl | (subst h; exact .inr ⟨rfl, rfl⟩)

theorem run_eq_deep (w : World) : ∀ (d t : Nat) (ks : List Nat), leaves P d t = some ks → ∀ (us vs : List Value), kindsOk ks us vs → ∀ D, (Op.equalIn (D + d) t (mkv P t us) (mkv P t vs)).run P w = .ok (eqvs us vs) w
  | 0, _, _, h => by simp [leaves] at h
  | d + 1, t, ks, h => by
    intro us vs hk D
    have ih := run_eq_deep w d
    have plain : ∀ k, ks = [k] → rowOk P t true = false → (∀ u v, kindOk k u v → (Op.equalIn (D + d + 1) t u v).run P w = .ok (eqv u v) w) → (Op.equalIn (D + (d + 1)) t (mkv P t us) (mkv P t vs)).run P w = .ok (eqvs us vs) w := by
      intro k e hr hx
      subst e
      cases us with
      | nil => exact hk.elim
      | cons u us => cases vs with
        | nil => exact hk.elim
        | cons v vs =>
          obtain ⟨h1, h2⟩ := hk
          cases us with
          | cons _ _ => exact h2.elim
          | nil => cases vs with
            | cons _ _ => exact h2.elim
            | nil =>
              rw [show D + (d + 1) = D + d + 1 from rfl]
              simpa [mkv, hr, eqvs] using hx u v h1
    unfold leaves at h
    split at h
    · rename_i hu
      cases h
      refine plain 1 rfl (by unfold rowOk; rw [hu]; rfl) fun u v hkk => ?_
      rcases hkk with ⟨h, _⟩ | ⟨_, a, b, rfl, rfl⟩ | ⟨h, _⟩
      · cases h
      · exact run_equalIn_bool w (D + d) t a b hu
      · cases h
    · rename_i q hu
      cases h
      refine plain 0 rfl (by unfold rowOk; rw [hu]; rfl) fun u v hkk => ?_
      rcases hkk with ⟨_, q', a, b, rfl, rfl⟩ | ⟨h, _⟩ | ⟨h, _⟩
      · exact run_equalIn_int w (D + d) t q' q a b hu
      · cases h
      · cases h
    · rename_i hu
      cases h
      refine plain 2 rfl (by unfold rowOk; rw [hu]; rfl) fun u v hkk => ?_
      rcases hkk with ⟨h, _⟩ | ⟨h, _⟩ | ⟨_, a, b, rfl, rfl⟩
      · cases h
      · cases h
      · exact run_equalIn_string w (D + d) t a b hu
    · rename_i fs hu
      split at h
      · cases h
      · rename_i hheld
        have hrow : rowOk P t true = true := by unfold rowOk; rw [hu]
        have hf : P.fieldsOf t = fs := by simp [Program.fieldsOf, hu]
        simp only [mkv, hrow, if_true]
        rw [show D + (d + 1) = (D + d) + 1 from rfl, run_equalIn_struct w (D + d) t _ _ (by rw [hf]; exact hu) (by simpa using hheld), hf]
        have key : ∀ (fl : List Field) (off : Nat) (ks' : List Nat), leavesF P (leaves P d) fl off = some ks' → off ≤ us.length → off ≤ vs.length → kindsOk ks' (us.drop off) (vs.drop off) →
            (Op.eqFields (D + d) us.toArray vs.toArray fl).run P w = .ok (eqvs (us.drop off) (vs.drop off)) w := by
          intro fl
          induction fl with
          | nil =>
            intro off ks' h _ _ hk
            simp only [leavesF, Option.some.injEq] at h
            subst h
            obtain ⟨l1, l2⟩ := kindsOk_len hk
            have e1 : us.drop off = [] := List.eq_nil_of_length_eq_zero (by simpa using l1)
            have e2 : vs.drop off = [] := List.eq_nil_of_length_eq_zero (by simpa using l2)
            rw [e1, e2]
            simp [Op.eqFields, eqvs]
          | cons f fl ihf =>
            intro off ks' h hu1 hv1 hk
            simp only [leavesF] at h
            split at h
            · rename_i hcond
              simp only [Bool.and_eq_true, beq_iff_eq, bne_iff_ne] at hcond
              obtain ⟨ho, hn⟩ := hcond
              split at h
              · rename_i ks1 hl
                split at h
                · rename_i hsz
                  simp only [Option.map_eq_some_iff] at h
                  obtain ⟨ks2, h2, rfl⟩ := h
                  obtain ⟨k1, k2⟩ := kindsOk_append hk
                  obtain ⟨l1, l2⟩ := kindsOk_len k1
                  have n1 : off + ks1.length ≤ us.length := by
                    have : ((us.drop off).take ks1.length).length = ks1.length := l1
                    simp at this; omega
                  have n2 : off + ks1.length ≤ vs.length := by
                    have : ((vs.drop off).take ks1.length).length = ks1.length := l2
                    simp at this; omega
                  have p1 := run_part_mkv (P := P) hsz (leaves_row hl) n1 w
                  have p2 := run_part_mkv (P := P) hsz (leaves_row hl) n2 w
                  have p3 := ih f.type ks1 hl _ _ k1 D
                  rw [List.drop_drop, List.drop_drop] at k2
                  have p4 := ihf (off + ks1.length) ks2 h2 n1 n2 k2
                  have hlen : (us.drop off).length = (vs.drop off).length := by
                    obtain ⟨q1, q2⟩ := kindsOk_len hk
                    rw [q1, q2]
                  have e := eqvs_split ks1.length (us.drop off) (vs.drop off) hlen
                  rw [List.drop_drop, List.drop_drop] at e
                  simp only [Op.eqFields, hn, ne_eq, not_false_eq_true, if_true, Sem.run_bind, ho, p1, p2, p3, Result.andThen_ok]
                  cases hb : eqvs ((us.drop off).take ks1.length) ((vs.drop off).take ks1.length)
                  · simp [e, hb]
                  · simp [e, hb, p4]
                · cases h
              · cases h
            · cases h
        have := key fs.toList 0 ks h (Nat.zero_le _) (Nat.zero_le _) (by simpa using hk)
        simpa using this
    · rename_i m e hu
      split at h
      · rename_i ks1 hl
        split at h
        · rename_i hsz
          cases h
          have hrow : rowOk P t true = true := by unfold rowOk; rw [hu]
          obtain ⟨ii, hii, hsi⟩ := szOk_spec hsz
          simp only [mkv, hrow, if_true]
          rw [show D + (d + 1) = (D + d) + 1 from rfl, run_equalIn_array w (D + d) _ _ hu hii]
          have hce : P.cellsOf e = ks1.length := by simp [Program.cellsOf, hii, hsi]
          rw [hce, List.range_eq_range']
          have key : ∀ (m j : Nat), j * ks1.length ≤ us.length → j * ks1.length ≤ vs.length → kindsOk (List.replicate m ks1).flatten (us.drop (j * ks1.length)) (vs.drop (j * ks1.length)) →
              (Op.eqItems (D + d) e ks1.length us.toArray vs.toArray (List.range' j m)).run P w = .ok (eqvs (us.drop (j * ks1.length)) (vs.drop (j * ks1.length))) w := by
            intro m
            induction m with
            | zero =>
              intro j _ _ hk
              obtain ⟨l1, l2⟩ := kindsOk_len hk
              have e1 : us.drop (j * ks1.length) = [] := List.eq_nil_of_length_eq_zero (by simpa using l1)
              have e2 : vs.drop (j * ks1.length) = [] := List.eq_nil_of_length_eq_zero (by simpa using l2)
              rw [e1, e2]
              simp [Op.eqItems, eqvs]
            | succ m ihm =>
              intro j hu1 hv1 hk
              simp only [List.replicate_succ, List.flatten_cons] at hk
              obtain ⟨k1, k2⟩ := kindsOk_append hk
              obtain ⟨l1, l2⟩ := kindsOk_len k1
              have n1 : j * ks1.length + ks1.length ≤ us.length := by
                have : ((us.drop (j * ks1.length)).take ks1.length).length = ks1.length := l1
                simp at this; omega
              have n2 : j * ks1.length + ks1.length ≤ vs.length := by
                have : ((vs.drop (j * ks1.length)).take ks1.length).length = ks1.length := l2
                simp at this; omega
              have p1 := run_part_mkv (P := P) hsz (leaves_row hl) n1 w
              have p2 := run_part_mkv (P := P) hsz (leaves_row hl) n2 w
              have p3 := ih e ks1 hl _ _ k1 D
              have ej : j * ks1.length + ks1.length = (j + 1) * ks1.length := by rw [Nat.succ_mul]
              rw [List.drop_drop, List.drop_drop, ej] at k2
              have p4 := ihm (j + 1) (by rw [← ej]; exact n1) (by rw [← ej]; exact n2) k2
              have hlen : (us.drop (j * ks1.length)).length = (vs.drop (j * ks1.length)).length := by
                obtain ⟨q1, q2⟩ := kindsOk_len hk
                rw [q1, q2]
              have ee := eqvs_split ks1.length (us.drop (j * ks1.length)) (vs.drop (j * ks1.length)) hlen
              rw [List.drop_drop, List.drop_drop, ej] at ee
              simp only [List.range'_succ, Op.eqItems, Sem.run_bind, p1, p2, p3, Result.andThen_ok]
              cases hb : eqvs ((us.drop (j * ks1.length)).take ks1.length) ((vs.drop (j * ks1.length)).take ks1.length)
              · simp [ee, hb]
              · simp [ee, hb, p4]
          have := key m 0 (by simp) (by simp) (by simpa using hk)
          simpa using this
        · cases h
      · cases h
    · cases h

theorem eqC_R {k : Nat} {x y : V} {u v : Value} {r : Bool} (h : eqC k x y = some r) (hx : R C x u) (hy : R C y v) : kindOk k u v ∧ eqv u v = r := by
  unfold eqC at h
  split at h
  · split at h
    · rename_i e; subst e; cases h
      cases hx; cases hy
      exact ⟨.inl ⟨rfl, _, _, _, rfl, rfl⟩, rfl⟩
    · cases h
  · cases h; cases hx; cases hy
    exact ⟨.inr (.inl ⟨rfl, _, _, rfl, rfl⟩), rfl⟩
  · cases h; cases hx; cases hy
    exact ⟨.inr (.inr ⟨rfl, _, _, rfl, rfl⟩), rfl⟩
  · cases h

theorem eqK_R : ∀ {ks : List Nat} {xs ys : List V} {us vs : List Value} {r : Bool}, eqK ks xs ys = some r → xs.length = us.length → ys.length = vs.length →
    (∀ (j : Nat) (c : V), xs[j]? = some c → R C c (us.getD j undef)) → (∀ (j : Nat) (c : V), ys[j]? = some c → R C c (vs.getD j undef)) → kindsOk ks us vs ∧ eqvs us vs = r
  | [], [], [], us, vs, r, h, h1, h2, _, _ => by
    have e1 : us = [] := List.eq_nil_of_length_eq_zero h1.symm
    have e2 : vs = [] := List.eq_nil_of_length_eq_zero h2.symm
    subst e1 e2
    simp only [eqK, Option.some.injEq] at h
    exact ⟨trivial, by simpa [eqvs] using h⟩
  | k :: ks, x :: xs, y :: ys, [], _, _, _, h1, _, _, _ => by simp at h1
  | k :: ks, x :: xs, y :: ys, _ :: _, [], _, _, _, h2, _, _ => by simp at h2
  | k :: ks, x :: xs, y :: ys, u :: us, v :: vs, r, h, h1, h2, hx, hy => by
    simp only [eqK] at h
    split at h
    · rename_i p q hp hq
      cases h
      obtain ⟨a1, a2⟩ := eqC_R hp (hx 0 x rfl) (hy 0 y rfl)
      obtain ⟨b1, b2⟩ := eqK_R hq (by simpa using h1) (by simpa using h2) (fun j c hj => by simpa using hx (j + 1) c (by simpa using hj)) (fun j c hj => by simpa using hy (j + 1) c (by simpa using hj))
      exact ⟨⟨a1, b1⟩, by simp only [eqvs]; rw [show eqv u v = p from a2, b2]⟩
    · cases h
  | [], _ :: _, _, _, _, _, h, _, _, _, _ => by simp [eqK] at h
  | [], [], _ :: _, _, _, _, h, _, _, _, _ => by simp [eqK] at h
  | _ :: _, [], _, _, _, _, h, _, _, _, _ => by simp [eqK] at h
  | _ :: _, _ :: _, [], _, _, _, h, _, _, _, _ => by simp [eqK] at h

theorem snd_eqa {ng : Bool} {ks : List Nat} {x y : X} : Snd P (.eqa ng ks x y) := by
  intro E n C st a o d K next Q hinv hok hd h hn
  cases hop : o.op <;> rw [hop] at hok <;> simp only [okOp, Bool.false_eq_true, Bool.and_eq_true, beq_iff_eq] at hok
  rename_i b t x' y' t'
  obtain ⟨⟨⟨⟨⟨hb, hl⟩, hrow⟩, hg⟩, h1⟩, h2⟩ := hok
  have hx := hinv.ev h1
  have hy := hinv.ev h2
  simp only [eff] at h
  split at h
  · rename_i p q e1 e2
    split at h
    · rename_i r hr
      rw [e1] at hx; rw [e2] at hy
      generalize hu : a.eval x' = u at hx
      generalize hv : a.eval y' = v at hy
      cases hx with
      | agg _ us l1 o1 r1 =>
        cases hy with
        | agg _ vs l2 o2 r2 =>
          obtain ⟨k1, k2⟩ := eqK_R hr l1 l2 r1 r2
          have hrun := run_eq_deep (P := P) C.w 8 t ks hl us vs k1 9992
          simp only [mkv, hrow, if_true] at hrun
          have hgt : P.eqGuardType P.depth t = false := by simpa using hg
          refine wp_value (u := .bool (ng ^^ r)) (w' := C.w) ?_ (hn C _ _ (hinv.put hd (.bool _)) h)
          simp only [Bool.or_eq_true, Bool.and_eq_true, beq_iff_eq, Bool.not_eq_true'] at hb
          rcases hb with ⟨rfl, rfl⟩ | ⟨rfl, rfl⟩
          · simp only [execOp, hop, hu, hv, Sem.run_bind, run_eqGuard_agg C.w _ t x' y' _ _ hgt, Result.andThen_ok, run_eql_struct]
            rw [hrun, k2]
            simp
          · simp only [execOp, hop, hu, hv, Sem.run_bind, run_eqGuard_agg C.w _ t x' y' _ _ hgt, Result.andThen_ok, run_neq_struct]
            rw [hrun, k2]
            simp
    · exact h.elim
  · exact h.elim

theorem snd_eqs {ng : Bool} {x y : X} : Snd P (.eqs ng x y) := by
  intro E n C st a o d K next Q hinv hok hd h hn
  cases hop : o.op <;> rw [hop] at hok <;> simp only [okOp, Bool.false_eq_true, Bool.and_eq_true] at hok
  rename_i b t x' y' t'
  obtain ⟨⟨hb, h1⟩, h2⟩ := hok
  have hx := hinv.ev h1
  have hy := hinv.ev h2
  simp only [eff] at h
  split at h
  · rename_i p q e1 e2
    rw [e1] at hx; rw [e2] at hy
    refine wp_value (u := .bool (ng ^^ (p.toList == q.toList))) (w' := C.w) ?_ (hn C _ _ (hinv.put hd (.bool _)) h)
    simp only [Bool.or_eq_true, Bool.and_eq_true, beq_iff_eq, Bool.not_eq_true'] at hb
    rcases hb with ⟨rfl, rfl⟩ | ⟨rfl, rfl⟩ <;> simp [execOp, hop, R_str hx, R_str hy, eqGuard, binOp, Op.stringOp]
  · exact h.elim

theorem snd_eqb {ng : Bool} {x y : X} : Snd P (.eqb ng x y) := by
  intro E n C st a o d K next Q hinv hok hd h hn
  cases hop : o.op <;> rw [hop] at hok <;> simp only [okOp, Bool.false_eq_true, Bool.and_eq_true] at hok
  rename_i b t x' y' t'
  obtain ⟨⟨⟨hb, ht⟩, h1⟩, h2⟩ := hok
  have hu : P.underlying t = some .bool := by
    split at ht
    · assumption
    · cases ht
  have hx := hinv.ev h1
  have hy := hinv.ev h2
  simp only [eff] at h
  split at h
  · rename_i p q e1 e2
    rw [e1] at hx; rw [e2] at hy
    refine wp_value (u := .bool (ng ^^ (p == q))) (w' := C.w) ?_ (hn C _ _ (hinv.put hd (.bool _)) h)
    simp only [Bool.or_eq_true, Bool.and_eq_true, beq_iff_eq, Bool.not_eq_true'] at hb
    rcases hb with ⟨rfl, rfl⟩ | ⟨rfl, rfl⟩ <;> simp [execOp, hop, R_bool hx, R_bool hy, eqGuard, binOp, run_equal_bool C.w t p q hu]
  · exact h.elim

end Go.Ab
