/-
  Calls: the operation.
-/
import Derived.Test.YtleilicpggnemaaMachS17
namespace Go.Ab
open Go

variable {E : Ent} {n : Sz} {C : Ctx} {st : St} {a : Act} {P : Program}

theorem call_sound (h : Inv E n C st a) {f : FuncId} {args : List Pm} {objs : List Nat} {d : Option Nat} {K : St → Prop} {us : List Value} (hk : call P f args objs d st K) (hl : args.length = us.length)
    (hR : ∀ (C1 : Ctx) (st1 : St), Inv E n C1 st1 a → C1.w = C.w → C1.F = C.F → C1.G = C.G → (st1 = st ∨ ∃ l, st1 = st.kills l) → ∀ (i : Nat) (p : Pm), args[i]? = some p → R C1 (p.x.ev st1) (us.getD i undef)) :
    Calls P f us.toArray C.w fun e w' => ∃ v C' st' av, e = .returned v ∧ C'.w = w' ∧ Inv E n C' st' a ∧ R C' av v ∧ K (st'.put d av) := by
  obtain ⟨hnd, hobn, hobd, hok, res, outs, fr, hcall, hpl, hout, hK⟩ := hk
  replace hnd := nodupB_iff hnd
  replace hobn := nodupB_iff hobn
  obtain ⟨C1, hi1, w1, F1, G1, l1⟩ := h.kills (args.flatMap (·.gone st) ++ args.flatMap (·.box st))
  have hR1 := hR C1 _ hi1 w1 F1 G1 (.inr ⟨_, rfl⟩)
  have fin : ∀ {Φ : Nat → Nat → Prop}, _ → _ → _ → _ → _ → _ := @fun Φ ha hb he hf hg => Calls.mono (call_core (Φ := Φ) h hl (hR C st h rfl rfl rfl (.inl rfl)) hnd hobn hobd hok hcall hout hi1 F1 l1 ha hb he hf hg)
    (R' := fun e w' => ∃ v C' st' av, e = .returned v ∧ C'.w = w' ∧ Inv E n C' st' a ∧ R C' av v ∧ K (st'.put d av)) fun e w' ⟨v, C', q1, q2, q3, q4⟩ => ⟨v, C', _, _, q1, q2, q3, q4, hK⟩
  rcases hpl with hpl | ⟨hfr, hio⟩
  · refine fin (Φ := C.F) (fun _ _ h => h) (fun i x hi hc => ?_) (fun _ _ _ h => h) (fun _ _ _ h => h) (fun b off hφ => .inl (by rw [F1]; exact hφ))
    have hp := List.all_eq_true.1 hpl _ (List.mem_of_getElem? hi)
    simp only [Pm.plain] at hp
    have := R_sh (frz_plain hi1 4 _ _ (hR1 i _ hi) hp)
    rw [w1, F1, G1] at this
    exact this
  · refine fin (Φ := Lent C1) (fun b off hF => .inl (by rw [F1]; exact hF)) (fun i x hi hc => ?_) (fun e => by rw [hfr] at e; cases e) (fun ⟨x, k, hm⟩ => ?_) (fun _ _ h => h)
    · have hcl : (frz (st.kills (args.flatMap (·.gone st) ++ args.flatMap (·.box st))) 4 (x.ev (st.kills (args.flatMap (·.gone st) ++ args.flatMap (·.box st))))).closed = true := by
        exact closed_of_sh _ hc
      have := R_sh (frz_sound hi1 4 _ _ (hR1 i _ hi) hcl)
      rw [w1, G1] at this
      exact this
    · have : args.any Pm.isIo = true := List.any_eq_true.2 ⟨_, hm, rfl⟩
      rw [hio] at this; cases this

theorem okPms_get : ∀ {args : List Pm} {ys : List Operand}, okPms args ys = true → args.length = ys.length ∧ ∀ (i : Nat) (p : Pm), args[i]? = some p → ∃ y, ys[i]? = some y ∧ okX p.x y = true
  | [], [], _ => ⟨rfl, fun i p hi => by simp at hi⟩
  | [], _ :: _, h => by simp [okPms] at h
  | _ :: _, [], h => by simp [okPms] at h
  | p :: ps, y :: ys, h => by
    simp only [okPms, Bool.and_eq_true] at h
    obtain ⟨h1, h2⟩ := okPms_get h.2
    refine ⟨by simp [h1], fun i q hi => ?_⟩
    cases i with
    | zero =>
      simp only [List.getElem?_cons_zero, Option.some.injEq] at hi
      subst hi
      refine ⟨y, rfl, ?_⟩
      have := h.1
      cases p <;> exact this
    | succ i => simpa using h2 i q (by simpa using hi)

theorem run_callFunc {f : FuncId} (hf : callable P f = true) (args : Array Value) (w : World) : (callFunc f args).run P w = .ok (.enter f args) w := by
  unfold callable at hf
  split at hf
  · rename_i fn hfn
    simp only [Bool.and_eq_true, bne_iff_ne, ne_eq] at hf
    obtain ⟨h1, h2⟩ := hf
    have h3 : fn.body ≠ none := by intro e; rw [e] at h1; cases h1
    simp [callFunc, hfn, h2, h3]
  · cases hf

theorem snd_call {f : FuncId} {args : List Pm} {objs : List Nat} : Snd P (.call f args objs) := by
  intro E n C st a o d K next Q hinv hok hd h hn
  cases hop : o.op <;> rw [hop] at hok <;> simp only [okOp, Bool.false_eq_true] at hok
  rename_i c
  split at hok
  · rename_i g hc
    simp only [Bool.and_eq_true, beq_iff_eq] at hok
    obtain ⟨⟨rfl, hcb⟩, hargs⟩ := hok
    obtain ⟨hl, hget⟩ := okPms_get hargs
    simp only [eff] at h
    have hrun : (execOp a.eval o).run P C.w = .ok (.enter f (c.args.toList.map a.eval).toArray) C.w := by
      have e : (c.args.toList.map a.eval).toArray = c.args.map a.eval := by
        apply Array.ext'; simp
      rw [e]
      have := run_callFunc hcb (c.args.map a.eval) C.w
      simp [execOp, hop, resolve, hc, Deferred.ofValue, Act.eval, invoke, this]
    unfold Oper.wp
    rw [hrun]
    refine Calls.mono (call_sound hinv h (by simpa using hl) fun C1 st1 hi1 _ _ _ _ i p hi => ?_) ?_
    · obtain ⟨y, hy, hok⟩ := hget i p hi
      have : (List.map a.eval c.args.toList).getD i undef = a.eval y := by simp [List.getD, List.getElem?_map, hy]
      rw [this]
      exact hi1.ev hok
    · rintro e w' ⟨v, C', st', av, rfl, rfl, hi', hR, hK⟩
      exact hn C' _ _ (hi'.put hd hR) hK
  · cases hok

theorem getD_append {α : Type} (rel : Pm → α → Prop) (z : α) : ∀ {l1 l2 : List Pm} {m1 m2 : List α}, l1.length = m1.length → (∀ (i : Nat) p, l1[i]? = some p → rel p (m1.getD i z)) → (∀ (i : Nat) p, l2[i]? = some p → rel p (m2.getD i z)) →
    ∀ (i : Nat) p, (l1 ++ l2)[i]? = some p → rel p ((m1 ++ m2).getD i z) := by
  intro l1 l2 m1 m2 hl h1 h2 i p hi
  by_cases hlt : i < l1.length
  · rw [List.getElem?_append_left hlt] at hi
    rw [List.getD, List.getElem?_append_left (by omega)]
    exact h1 i p hi
  · rw [List.getElem?_append_right (by omega)] at hi
    rw [List.getD, List.getElem?_append_right (by omega), ← hl]
    exact h2 _ p hi

theorem snd_calln {x : X} {args : List Pm} {objs : List Nat} : Snd P (.calln x args objs) := by
  intro E n C st a o d K next Q hinv hok hd h hn
  cases hop : o.op <;> rw [hop] at hok <;> simp only [okOp, Bool.false_eq_true] at hok
  rename_i c
  split at hok
  · rename_i y hc
    simp only [Bool.and_eq_true] at hok
    obtain ⟨hx, hargs⟩ := hok
    obtain ⟨hl, hget⟩ := okPms_get hargs
    have hX := hinv.ev hx
    simp only [eff] at h
    cases hx' : x.ev st with
    | fn f first caps =>
      rw [hx'] at hX h
      simp only at h
      obtain ⟨hcb, hc1, hc2, hk⟩ := h
      generalize hu : a.eval y = u at hX
      cases hX with
      | fn _ _ _ us ws l1 l2 r1 r2 =>
        have hrun : (execOp a.eval o).run P C.w = .ok (.enter f (us ++ c.args.toList.map a.eval ++ ws).toArray) C.w := by
          have e : (us ++ c.args.toList.map a.eval ++ ws).toArray = us.toArray ++ c.args.map a.eval ++ ws.toArray := by
            apply Array.ext'; simp
          rw [e]
          have := run_callFunc hcb (us.toArray ++ c.args.map a.eval ++ ws.toArray) C.w
          simpa [execOp, hop, resolve, hc, Deferred.ofValue, hu, invoke] using this
        unfold Oper.wp
        rw [hrun]
        have closedR : ∀ {vs : List V} {us : List Value}, V.closedL vs = true → (∀ (j : Nat) (c : V), vs[j]? = some c → R C c (us.getD j undef)) → ∀ (C1 : Ctx), C1.w = C.w → C1.F = C.F → C1.G = C.G →
            ∀ (st1 : St) (i : Nat) (p : Pm), (vs.map fun v => Pm.ro (.k v))[i]? = some p → R C1 (p.x.ev st1) (us.getD i undef) := fun hcl hr C1 w1 F1 G1 st1 i p hi => by
          simp only [List.getElem?_map, Option.map_eq_some_iff] at hi
          obtain ⟨v, hv, rfl⟩ := hi
          exact R.of_closed (C := C) (C' := C1) (fun b off hF => ⟨by rw [F1]; exact hF, by rw [w1]⟩) (fun b hb => by rw [G1]; exact hb) (hr i v hv) (closedL_all hcl i v hv)
        refine Calls.mono (call_sound hinv hk (us := us ++ c.args.toList.map a.eval ++ ws) (by simp [l1, l2, hl]) fun C1 st1 hi1 w1 F1 G1 _ => ?_) ?_
        · refine getD_append (fun p u => R C1 (p.x.ev st1) u) undef (by simp [l1, hl]) (getD_append (fun p u => R C1 (p.x.ev st1) u) undef (by simp [l1]) (closedR hc1 r1 C1 w1 F1 G1 st1) ?_) (closedR hc2 r2 C1 w1 F1 G1 st1)
          intro i p hi
          obtain ⟨y, hy, hok⟩ := hget i p hi
          have : (List.map a.eval c.args.toList).getD i undef = a.eval y := by simp [List.getD, List.getElem?_map, hy]
          rw [this]
          exact hi1.ev hok
        · rintro e w' ⟨v, C', st', av, rfl, rfl, hi', hR, hK⟩
          exact hn C' _ _ (hi'.put hd hR) hK
    | _ => rw [hx'] at h; exact absurd h (by simp)
  · cases hok

end Go.Ab
