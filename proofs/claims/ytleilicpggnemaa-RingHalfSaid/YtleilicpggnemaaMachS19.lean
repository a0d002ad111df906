/-
  Regions: operations one behind the other.
-/
import Derived.Test.YtleilicpggnemaaMachS18
namespace Go.Ab
open Go

variable {E : Ent} {n : Sz} {C : Ctx} {st : St} {a : Act} {P : Program}

theorem snd : ∀ q : O, Snd P q
  | .mv _ => snd_mv
  | .pick _ _ _ => snd_pick
  | .box _ _ => snd_box
  | .alloc _ _ _ => snd_alloc
  | .nil _ _ => snd_nil
  | .build _ _ => snd_build
  | .bsl _ _ _ => snd_bsl
  | .load _ _ _ => snd_load
  | .store _ _ _ => snd_store
  | .faddr _ _ => snd_faddr
  | .iaddr _ _ _ _ => snd_iaddr
  | .field _ _ _ _ => snd_field
  | .index _ _ _ _ _ => snd_index
  | .sidx _ _ => snd_sidx
  | .ext _ _ => snd_ext
  | .bin _ _ _ => snd_bin
  | .eqs _ _ _ => snd_eqs
  | .eqb _ _ _ => snd_eqb
  | .eqa _ _ _ _ => snd_eqa
  | .not _ => snd_not
  | .neg _ => snd_neg
  | .len _ => snd_len
  | .slen _ => snd_slen
  | .app _ _ _ _ _ => snd_app
  | .slice _ _ _ _ => snd_slice
  | .sslice _ _ _ => snd_sslice
  | .mks _ _ _ _ _ => snd_mks
  | .mkf _ _ _ => snd_mkf
  | .max _ _ => snd_max
  | .min _ _ => snd_min
  | .call _ _ _ => snd_call
  | .calln _ _ _ => snd_calln
  | .nilchk _ => snd_nilchk
  | .loadb _ _ => snd_loadb

theorem put_self {st : St} {t : Nat} {v : V} (h : st.env t = v) : st.put (some t) v = st := by
  cases st with
  | mk env heap =>
    simp only [St.put, St.mk.injEq, and_true]
    funext i
    simp only [upd]
    split
    · rename_i e; subst e; exact h.symm
    · rfl

/-- What a guard says. -/
theorem guard_spec (h : Inv E n C st a) {ops : Array Oper} {g : Option (Nat × Bool)} {p : Oper} (hg : okGuard ops n g p.guard = true) {t : Nat} {w b : Bool} (e : g = some (t, w)) (hb : st.env t = .bool b) :
    Region.wanted p (yielded ops a.tmps) = (b == w) := by
  subst e
  cases hgd : p.guard with
  | none => rw [hgd] at hg; simp [okGuard] at hg
  | some x =>
    obtain ⟨j, w2⟩ := x
    rw [hgd] at hg
    simp only [okGuard, Bool.and_eq_true, beq_iff_eq, decide_eq_true_eq] at hg
    obtain ⟨⟨rfl, hlt⟩, hj⟩ := hg
    have hR := h.env t
    rw [hb] at hR
    have hu := R_bool hR
    have hy : yielded ops a.tmps j = some b := by
      unfold yielded
      cases hoj : ops[j]? with
      | none => rw [hoj] at hj; cases hj
      | some oj =>
        rw [hoj] at hj
        simp only [beq_iff_eq] at hj
        have hs : t < a.tmps.size := by rw [h.size]; exact hlt
        have : a.tmps[t]? = some (.bool b) := by
          rw [Array.getD_eq_getD_getElem?] at hu
          cases hq : a.tmps[t]? with
          | none => simp at hq; omega
          | some u => rw [hq] at hu; simp at hu; rw [hu]
        simp [hj, this]
    unfold Region.wanted
    rw [hgd]
    simp [hy]

theorem R_skip {C : Ctx} : R C (.tup []) undef := .tup [] [] rfl (fun j c hj => by simp at hj)

theorem guard_skip (h : Inv E n C st a) {ops : Array Oper} {g : Option (Nat × Bool)} {p : Oper} (hg : okGuard ops n g p.guard = true) {t : Nat} {w : Bool} (e : g = some (t, w)) (hb : st.env t = .tup []) :
    Region.wanted p (yielded ops a.tmps) = false := by
  subst e
  cases hgd : p.guard with
  | none => rw [hgd] at hg; simp [okGuard] at hg
  | some x =>
    obtain ⟨j, w2⟩ := x
    rw [hgd] at hg
    simp only [okGuard, Bool.and_eq_true, beq_iff_eq, decide_eq_true_eq] at hg
    obtain ⟨⟨rfl, hlt⟩, hj⟩ := hg
    have hR := h.env t
    rw [hb] at hR
    generalize hu : a.tmps.getD t undef = u at hR
    have hy : yielded ops a.tmps j = none := by
      unfold yielded
      cases hoj : ops[j]? with
      | none => rw [hoj] at hj; cases hj
      | some oj =>
        rw [hoj] at hj
        simp only [beq_iff_eq] at hj
        have hs : t < a.tmps.size := by rw [h.size]; exact hlt
        have : a.tmps[t]? = some u := by
          rw [Array.getD_eq_getD_getElem?] at hu
          cases hq : a.tmps[t]? with
          | none => simp at hq; omega
          | some u' => rw [hq] at hu; simp at hu; rw [hu]
        cases hR with
        | tup _ us hl hr => simp [hj, this]
    unfold Region.wanted
    rw [hgd]
    simp [hy]

theorem wanted_none {ops : Array Oper} {p : Oper} (hg : okGuard ops n none p.guard = true) (y : Nat → Option Bool) : Region.wanted p y = true := by
  cases hgd : p.guard with
  | none => unfold Region.wanted; rw [hgd]
  | some x => rw [hgd] at hg; simp [okGuard] at hg

theorem effG_sound (h : Inv E n C st a) {ops : Array Oper} {i : Nat} {o : Op'} {p : Oper} {K : St → Prop} {next : Act → World → Prop} {Q : Exit → Act → World → Prop} (ho : ops[i]? = some p) (hok : okOper P ops n o p = true)
    (hk : effG P o st K) (hn : ∀ C' st' a', Inv E n C' st' a' → K st' → next a' C'.w) : wpOp P ops Q i next a C.w := by
  simp only [okOper, Bool.and_eq_true] at hok
  obtain ⟨⟨hd, hop⟩, hg⟩ := hok
  unfold wpOp
  simp only [ho]
  unfold effG at hk
  split at hk
  · rename_i e
    rw [e] at hg
    rw [wanted_none hg, if_pos rfl]
    exact .inl (snd o.op h hop hd hk hn)
  · rename_i t w e
    split at hk
    · rename_i b hb
      rw [guard_spec h hg e hb]
      by_cases hbw : b = w
      · subst hbw
        have h1 := hk.1 rfl
        rw [put_self hb] at h1
        simp only [beq_self_eq_true, if_true]
        exact .inl (snd o.op h hop hd h1 hn)
      · have hnb : b = !w := by cases b <;> cases w <;> simp_all
        have h1 := hk.2 hnb
        rw [put_self (by rw [hb, hnb])] at h1
        have : (b == w) = false := by simp [hbw]
        rw [this]
        simp only [Bool.false_eq_true, if_false]
        exact hn C _ _ (h.put hd R_skip) h1
    · rename_i hb
      rw [guard_skip h hg e hb]
      simp only [Bool.false_eq_true, if_false]
      exact hn C _ _ (h.put hd R_skip) hk
    · exact hk.elim

theorem ops_sound {ops : Array Oper} {Q : Exit → Act → World → Prop} {K : St → Prop} (hn : ∀ C' st' a', Inv E n C' st' a' → K st' → Q .normal a' C'.w) :
    ∀ (l : List Op') (k : Nat) {C : Ctx} {st : St} {a : Act}, okOpers P ops n l (ops.toList.drop k) = true → Inv E n C st a → wpOps P l st K → Go.wpOps P ops Q (List.range' k l.length) a C.w
  | [], k, C, st, a, _, h, hk => hn C st a h hk
  | o :: l, k, C, st, a, hok, h, hk => by
    cases hp : ops.toList.drop k with
    | nil => rw [hp] at hok; simp [okOpers] at hok
    | cons p ps =>
      rw [hp] at hok
      simp only [okOpers, Bool.and_eq_true] at hok
      have hpk : ops[k]? = some p := by
        have : (ops.toList.drop k)[0]? = some p := by rw [hp]; rfl
        simpa using this
      have hps : ops.toList.drop (k + 1) = ps := by
        rw [← List.drop_drop, hp]; rfl
      simp only [List.length_cons, List.range'_succ]
      rw [wpOps_cons]
      refine effG_sound h hpk hok.1 hk fun C' st' a' h' hk' => ?_
      exact ops_sound hn l (k + 1) (by rw [hps]; exact hok.2) h' hk'

theorem okOpers_len {ops : Array Oper} : ∀ {l : List Op'} {m : List Oper}, okOpers P ops n l m = true → l.length = m.length
  | [], [], _ => rfl
  | [], _ :: _, h => by simp [okOpers] at h
  | _ :: _, [], h => by simp [okOpers] at h
  | o :: l, p :: m, h => by
    simp only [okOpers, Bool.and_eq_true] at h
    simp [okOpers_len h.2]

theorem region_sound {ops : Array Oper} {id : Nat} {Q : Exit → Act → World → Prop} {K : St → Prop} (hn : ∀ C' st' a', Inv E n C' st' a' → K st' → Q .normal a' C'.w) {l : List Op'}
    (hok : okOpers P ops n l ops.toList = true) (h : Inv E n C st a) (hk : wpOps P l st K) : (Code.region id ops false).wp P Q a C.w := by
  have hl : l.length = ops.size := by simpa using okOpers_len hok
  refine wp_region ?_
  rw [List.range_eq_range', ← hl]
  exact ops_sound hn l 0 (by simpa using hok) h hk

end Go.Ab
