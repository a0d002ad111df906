/-
  Control: a text does what the abstract machine says.
-/
import Derived.Test.YtleilicpggnemaaMachS19
namespace Go.Ab
open Go

variable {E : Ent} {n : Sz} {C : Ctx} {st : St} {a : Act} {P : Program}

theorem tab_map {α : Type} (z : α) (f : Nat → α) (l : List Nat) (i : Nat) : tab z (l.map fun k => (k, f k)) i = if i ∈ l then f i else z := by
  induction l with
  | nil => simp [tab]
  | cons k l ih =>
    simp only [List.map_cons, tab]
    by_cases h : i = k
    · subst h; simp
    · simp [h, ih]

theorem Inv.forget (h : Inv E n C st a) {st' : St} (he : ∀ t, st'.env t = st.env t ∨ st'.env t = .undef) (hh : st'.heap = st.heap) : Inv E n C st' a :=
  { heap := by rw [hh]; exact h.heap
    env := fun t => by
      rcases he t with e | e
      · rw [e]; exact h.env t
      · rw [e]; exact .undef _
    objs := h.objs, inj := h.inj, fin := h.fin, gnew := h.gnew, gsub := h.gsub, par := h.par, fnew := h.fnew, frame := h.frame, defers := h.defers, size := h.size }

theorem Inv.keep (h : Inv E n C st a) (keep objs : List Nat) : ∃ C', Inv E n C' (st.keep keep objs) a ∧ C'.w = C.w := by
  refine ⟨_, (h.killP fun r => !inl objs r).forget (st' := st.keep keep objs) (fun t => ?_) ?_, rfl⟩
  · simp only [St.keep, St.killP]
    rw [tab_map .undef (fun t => (st.env t).kill fun r => !inl objs r)]
    split
    · exact .inl rfl
    · exact .inr rfl
  · funext r
    simp only [St.keep, St.killP]
    rw [tab_map .dead (fun r => (st.heap r).kill fun r => !inl objs r)]
    by_cases hr : r ∈ objs
    · have : inl objs r = true := inl_iff.2 hr
      simp [hr, this]
    · have : inl objs r = false := by rw [← Bool.not_eq_true, inl_iff]; exact hr
      simp [hr, this]

/-- The least number. -/
theorem least_of {p : Nat → Prop} (h : ∃ m, p m) : ∃ m, p m ∧ ∀ k, p k → m ≤ k := by
  obtain ⟨m, hm⟩ := h
  induction m using Nat.strongRecOn with
  | _ m ih =>
    by_cases hk : ∃ k, k < m ∧ p k
    · obtain ⟨k, h1, h2⟩ := hk; exact ih k h1 h2
    · exact ⟨m, hm, fun k hk' => Nat.le_of_not_lt fun hlt => hk ⟨k, hlt, hk'⟩⟩

theorem wp_loop_m {c : Code} {Q : Exit → Act → World → Prop} {a : Act} {w : World} (I : Act → World → Nat → Prop) (h0 : ∃ m, I a w m)
    (round : ∀ a w m, I a w m → c.wp P (Exit.then (fun a' w' => ∃ m', m' < m ∧ I a' w' m') Q) a w) : (Code.loop c).wp P Q a w := by
  classical
  let μ : Act → World → Nat := fun a w => if h : ∃ m, I a w m then Classical.choose (least_of h) else 0
  have hμ : ∀ a w, (∃ m, I a w m) → I a w (μ a w) ∧ ∀ k, I a w k → μ a w ≤ k := fun a w h => by
    have : μ a w = Classical.choose (least_of h) := by simp only [μ, h, dif_pos]
    rw [this]; exact Classical.choose_spec (least_of h)
  refine wp_loop (fun a w => ∃ m, I a w m) μ h0 fun a w hI => ?_
  refine wp_mono (round a w (μ a w) (hμ a w hI).1) fun e a' w' hq => ?_
  cases e with
  | normal =>
    obtain ⟨m', h1, h2⟩ := hq
    exact ⟨⟨m', h2⟩, Nat.lt_of_le_of_lt ((hμ a' w' ⟨m', h2⟩).2 m' h2) h1⟩
  | _ => exact hq

def Ex.to : Ex → Exit
  | .normal => .normal
  | .exit id => .exit id
  | .ret => .ret

/-- Regions in any order. -/
def RegD (P : Program) : Prop :=
  ∀ {E : Ent} {n : Sz} {C : Ctx} {st : St} {a : Act} {ops : Array Oper} {id : Nat} {dr : Bool} {Q : Exit → Act → World → Prop} {K : St → Prop} {l : List (Op' × Nat)},
    (∀ C' st' a', Inv E n C' st' a' → K st' → Q .normal a' C'.w) → okOpers P ops n (l.map (·.1)) ops.toList = true → okD ops l = true → Inv E n C st a → wpOpsD P l st K → (Code.region id ops dr).wp P Q a C.w

theorem wpC_sound (hD : RegD P) : ∀ (c : Go.Ab.C) (code : Code), okC P n c code = true → ∀ {C : Ctx} {st : St} {a : Act} {Q : Ex → St → Prop} {Q' : Exit → Act → World → Prop}, Inv E n C st a → wpC P c st Q →
    (∀ e C' st' a', Inv E n C' st' a' → Q e st' → Q' e.to a' C'.w) → code.wp P Q' a C.w
  | .skip, code, hok, C, st, a, Q, Q', h, hk, hq => by
    cases code <;> simp [okC] at hok
    exact wp_skip (hq .normal C st a h hk)
  | .ret, code, hok, C, st, a, Q, Q', h, hk, hq => by
    cases code <;> simp [okC] at hok
    exact wp_ret (hq .ret C st a h hk)
  | .exit i, code, hok, C, st, a, Q, Q', h, hk, hq => by
    cases code <;> simp [okC] at hok
    subst hok
    exact wp_exit (hq (.exit _) C st a h hk)
  | .reg names ops, code, hok, C, st, a, Q, Q', h, hk, hq => by
    cases code <;> simp only [okC, Bool.and_eq_true, Bool.not_eq_true', Bool.false_eq_true] at hok
    obtain ⟨hok, rfl⟩ := hok
    obtain ⟨C1, h1, w1, _⟩ := h.kills names
    rw [← w1]
    exact region_sound (fun C' st' a' h' hk' => hq .normal C' st' a' h' hk') hok h1 hk
  | .regd names ops, code, hok, C, st, a, Q, Q', h, hk, hq => by
    cases code <;> simp only [okC, Bool.and_eq_true, Bool.false_eq_true] at hok
    obtain ⟨C1, h1, w1, _⟩ := h.kills names
    rw [← w1]
    exact hD (fun C' st' a' h' hk' => hq .normal C' st' a' h' hk') hok.1 hok.2 h1 hk
  | .seq x y, code, hok, C, st, a, Q, Q', h, hk, hq => by
    cases code <;> simp only [okC, Bool.and_eq_true, Bool.false_eq_true] at hok
    refine wp_seq (wpC_sound hD x _ hok.1 h hk fun e C' st' a' h' hk' => ?_)
    cases e with
    | normal => exact wpC_sound hD y _ hok.2 h' hk' hq
    | exit i => exact hq (.exit i) C' st' a' h' hk'
    | ret => exact hq .ret C' st' a' h' hk'
  | .cond x b c, code, hok, C, st, a, Q, Q', h, hk, hq => by
    cases code <;> simp only [okC, Bool.and_eq_true, Bool.false_eq_true] at hok
    obtain ⟨⟨hx, hb⟩, hc⟩ := hok
    simp only [wpC] at hk
    have hX := h.ev hx
    split at hk
    · rename_i t ht
      rw [ht] at hX
      exact wp_cond_split (R_bool hX) (fun e => wpC_sound hD b _ hb h (hk.1 e) hq) (fun e => wpC_sound hD c _ hc h (hk.2 e) hq)
    · exact hk.elim
  | .blk i b, code, hok, C, st, a, Q, Q', h, hk, hq => by
    cases code <;> simp only [okC, Bool.and_eq_true, beq_iff_eq, Bool.false_eq_true] at hok
    obtain ⟨rfl, hb⟩ := hok
    refine wp_block (wpC_sound hD b _ hb h hk fun e C' st' a' h' hk' => ?_)
    cases e with
    | normal => exact hq .normal C' st' a' h' hk'
    | exit j =>
      simp only [Ex.to, Exit.inBlock]
      simp only at hk'
      split
      · rename_i e; rw [if_pos e] at hk'; exact hq .normal C' st' a' h' hk'
      · rename_i e; rw [if_neg e] at hk'; exact hq (.exit j) C' st' a' h' hk'
    | ret => exact hq .ret C' st' a' h' hk'
  | .fgt stop keep objs b, code, hok, C, st, a, Q, Q', h, hk, hq => by
    have hok' : okC P n b code = true := by cases code <;> simpa only [okC] using hok
    refine wpC_sound hD b code hok' h hk fun e C' st' a' h' hk' => ?_
    cases e with
    | normal =>
      obtain ⟨C1, h1, w1⟩ := h'.keep keep objs
      rw [← w1]
      exact hq .normal C1 _ a' h1 hk'
    | exit i => exact hq (.exit i) C' st' a' h' hk'
    | ret => exact hq .ret C' st' a' h' hk'
  | .loop keep objs b, code, hok, C, st, a, Q, Q', h, hk, hq => by
    cases code <;> simp only [okC, Bool.false_eq_true] at hok
    obtain ⟨I, ⟨m, hm⟩, hround⟩ := hk
    refine wp_loop_m (fun a w m => ∃ C st, C.w = w ∧ Inv E n C st a ∧ I st m) ?_ fun a w m hI => ?_
    · obtain ⟨C1, h1, w1⟩ := h.keep keep objs
      exact ⟨m, C1, _, w1, h1, hm⟩
    · obtain ⟨C1, st1, rfl, h1, hI⟩ := hI
      refine wpC_sound hD b _ hok h1 (hround st1 m hI) fun e C' st' a' h' hk' => ?_
      cases e with
      | normal =>
        obtain ⟨m', hlt, hI'⟩ := hk'
        obtain ⟨C2, h2, w2⟩ := h'.keep keep objs
        exact ⟨m', hlt, C2, _, w2, h2, hI'⟩
      | exit i => exact hq (.exit i) C' st' a' h' hk'
      | ret => exact hq .ret C' st' a' h' hk'

end Go.Ab
