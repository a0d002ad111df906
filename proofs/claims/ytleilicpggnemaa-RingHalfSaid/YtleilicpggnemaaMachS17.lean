/-
  Calls: what a call does to what is known.
-/
import Derived.Test.YtleilicpggnemaaMachS16
namespace Go.Ab
open Go

variable {E : Ent} {n : Sz} {C : Ctx} {st : St} {a : Act} {P : Program}

theorem RB_mono {C' : Ctx} (hc : Le C C') (hw : C'.w = C.w) {c : V} {u : Value} (h : RB C c u) : RB C' c u := by
  by_cases hcc : ∃ vs, c = .tup vs
  · obtain ⟨vs, rfl⟩ := hcc
    obtain ⟨us, rfl, h2, h4⟩ := h
    exact ⟨us, rfl, h2, fun j c hj => RB2_mono hc hw (h4 j c hj)⟩
  · have hne : ∀ vs, c ≠ .tup vs := fun vs e => hcc ⟨vs, e⟩
    have e1 : ∀ C : Ctx, RB C c u = RB2 C c u := fun C => by unfold RB; split <;> first | exact absurd rfl (hne _) | rfl
    rw [e1] at h ⊢
    exact RB2_mono hc hw h

theorem IoR_mono {C' : Ctx} (hc : Le C C') (hw : C'.w = C.w) {cs : List V} {u : Value} (h : IoR C cs u) : IoR C' cs u := by
  obtain ⟨b, base, cur, e, g, h1, h2, h3⟩ := h
  exact ⟨b, base, cur, e, g, h1, by rw [hw]; exact h2, fun j c hj => ⟨(h3 j c hj).1, (h3 j c hj).2.1, RB1_mono hc hw (h3 j c hj).2.2⟩⟩

theorem Le_bare {w : World} {F : Nat → Nat → Prop} {G : Nat → Prop} {C' : Ctx} (hF : ∀ b off, F b off → C'.F b off) (hG : ∀ b, G b → C'.G b) (hw : C'.w = w) : Le (bare w F G) C' :=
  ⟨fun b off hf => ⟨hF b off hf, by rw [hw]; rfl⟩, hG, fun r cs _ hr => (by cases hr), fun r s rs _ hr => (by cases hr)⟩

theorem frz_plain (h : Inv E n C st a) : ∀ (k : Nat) (v : V) (u : Value), R C v u → v.closed = true → R (bare C.w C.F C.G) (frz st k v) u
  | 0, v, u, hR, hc => by
    have e : frz st 0 v = v := by unfold frz; cases v <;> rfl
    rw [e]
    exact R.of_closed (C := C) (C' := bare C.w C.F C.G) (fun _ _ hf => ⟨hf, rfl⟩) (fun _ h => h) hR hc
  | k + 1, v, u, hR, hc => by
    have ih := frz_plain h k
    have other : frz st (k + 1) v = v → R (bare C.w C.F C.G) (frz st (k + 1) v) u := fun e => by
      rw [e]; exact R.of_closed (C := C) (C' := bare C.w C.F C.G) (fun _ _ hf => ⟨hf, rfl⟩) (fun _ h => h) hR hc
    cases hR with
    | undef | bool | int | str | nilp | nilf | slNil | sl | cp => exact other rfl
    | ptr | rptr | sref | srefNil | srefZ => simp [V.closed] at hc
    | nils s => simp only [frz]; exact .slNil false s
    | nilsSome s b off =>
      simp only [frz]
      exact .sl false s [] b off 0 (fun _ _ => undef) (by simp) (by simp [maxLen]) (by simp) (by simp) (fun i j c hij => by simp [at2] at hij) (fun i j c hij => by simp [at2] at hij) (fun i j c hij => by simp [at2] at hij)
    | agg cs us hl h1 hr =>
      simp only [V.closed] at hc
      obtain ⟨l, r⟩ := mapR (C := bare C.w C.F C.G) (f := frz st k) hl (fun j c hj => ih c _ (hr j c hj) (closedL_all hc j _ hj))
      exact .agg _ us l h1 r
    | tup cs us hl hr =>
      simp only [V.closed] at hc
      obtain ⟨l, r⟩ := mapR (C := bare C.w C.F C.G) (f := frz st k) hl (fun j c hj => ih c _ (hr j c hj) (closedL_all hc j _ hj))
      exact .tup _ us l r
    | fn f first caps us ws hl hl' hr hr' =>
      simp only [V.closed, Bool.and_eq_true] at hc
      obtain ⟨l, r⟩ := mapR (C := bare C.w C.F C.G) (f := frz st k) hl (fun j c hj => ih c _ (hr j c hj) (closedL_all hc.1 j _ hj))
      obtain ⟨l', r'⟩ := mapR (C := bare C.w C.F C.G) (f := frz st k) hl' (fun j c hj => ih c _ (hr' j c hj) (closedL_all hc.2 j _ hj))
      exact .fn f _ _ us ws l l' r r'

theorem outsOk_get : ∀ {ps : List Pm} {os : List V}, outsOk st ps os = true → ∀ (i : Nat) (x : X) (k : Nat) (o : V), ps[i]? = some (.io x k) → os[i]? = some o →
    ∃ r off cs', x.ev st = .ptr r off ∧ o = .io cs' ∧ cs'.length = k ∧ (backL (oldC st r off k) cs').1.all V.noOwn = true
  | [], _, _, i, x, k, o, hi, _ => by simp at hi
  | _ :: _, [], _, i, x, k, o, _, hi => by simp at hi
  | p :: ps, q :: os, h, i, x, k, o, hi, ho => by
    have hrest : outsOk st ps os = true := by
      cases p <;> simp only [outsOk, Bool.and_eq_true] at h <;> first | exact h.2 | exact h
    cases i with
    | zero =>
      simp only [List.getElem?_cons_zero, Option.some.injEq] at hi ho
      subst hi ho
      simp only [outsOk, Bool.and_eq_true] at h
      cases hx : x.ev st with
      | ptr r off =>
        cases q with
        | io cs' =>
          simp only [hx, Bool.and_eq_true, beq_iff_eq] at h
          exact ⟨r, off, cs', rfl, rfl, h.1.1, h.1.2⟩
        | _ => simp [hx] at h
      | _ => simp [hx] at h
    | succ i => exact outsOk_get hrest i x k o (by simpa using hi) (by simpa using ho)

theorem names_nodup (h : Inv E n C st a) {l : List Nat} (hl : l.Nodup) (hlive : ∀ r ∈ l, (st.heap r).isDead = false) : (l.filterMap (blkOf C)).Nodup := by
  unfold List.Nodup at hl ⊢
  rw [List.pairwise_filterMap]
  refine List.Pairwise.imp_of_mem ?_ hl
  intro r r' hr hr' hne b hb b' hb' e
  subst e
  simp only [blkOf, Option.map_eq_some_iff] at hb hb'
  obtain ⟨L, h1, h2⟩ := hb
  obtain ⟨L', h3, h4⟩ := hb'
  exact hne (h.inj r r' L L' h1 h3 (by rw [h.heap]; exact hlive r hr) (by rw [h.heap]; exact hlive r' hr') (h2.trans h4.symm))

theorem call_core (h : Inv E n C st a) {f : FuncId} {args : List Pm} {us : List Value} {objs : List Nat} {res : V} {outs : List V} {fr : Bool} {Φ : Nat → Nat → Prop} {C1 : Ctx}
    (hargl : args.length = us.length) (hargs : ∀ (i : Nat) (p : Pm), args[i]? = some p → R C (p.x.ev st) (us.getD i undef)) (hnd : (args.flatMap (·.gone st) ++ args.flatMap (·.box st)).Nodup) (hobn : objs.Nodup) (hobd : objs.all (fun r => (st.heap r).isDead) = true)
    (hok : args.all (·.ok (st.kills (args.flatMap (·.gone st) ++ args.flatMap (·.box st))) st) = true)
    (hcall : CallsV P f (args.map (·.val (st.kills (args.flatMap (·.gone st) ++ args.flatMap (·.box st))) st)) res outs fr)
    (hout : outsOk st args outs = true)
    (hi1 : Inv E n C1 (st.kills (args.flatMap (·.gone st) ++ args.flatMap (·.box st))) a) (hF1 : C1.F = C.F) (hl1 : C1.loc = C.loc)
    (ha : ∀ b off, C.F b off → Φ b off)
    (hb : ∀ (i : Nat) x, args[i]? = some (Pm.ro x) → ((frz (st.kills (args.flatMap (·.gone st) ++ args.flatMap (·.box st))) 4 (x.ev (st.kills (args.flatMap (·.gone st) ++ args.flatMap (·.box st))))).sh).closed = true →
      R (bare C.w Φ C.G) ((frz (st.kills (args.flatMap (·.gone st) ++ args.flatMap (·.box st))) 4 (x.ev (st.kills (args.flatMap (·.gone st) ++ args.flatMap (·.box st))))).sh) (us.getD i undef))
    (he : fr = false → ∀ b off, Φ b off → C.F b off) (hf : (∃ x k, Pm.io x k ∈ args) → ∀ b off, Φ b off → C.F b off) (hg : ∀ b off, Φ b off → Lent C1 b off) :
    Calls P f us.toArray C.w fun e w' => ∃ v C', e = .returned v ∧ C'.w = w' ∧
      Inv E n C' ((backs st args outs (blanks st args (st.kills (args.flatMap (·.gone st))))).sets (thaw res objs).2.2) a ∧ R C' (thaw res objs).1 v := by
  have hand := h.handL ha hargl hargs hok hb
  generalize hvals : args.map (·.val (st.kills (args.flatMap (·.gone st) ++ args.flatMap (·.box st))) st) = vals at hcall hand
  obtain ⟨hlen, hlen'⟩ := hand.len
  obtain ⟨hliveG, hliveB⟩ := hand.live
  have hndG := (List.nodup_append.1 hnd).1
  have hndB := (List.nodup_append.1 hnd).2.1
  have hdjGB := (List.nodup_append.1 hnd).2.2
  -- the blocks
  have blkG : ∀ b ∈ listA (ownsA C.w) vals us, ∃ r ∈ args.flatMap (·.gone st), ∃ L s rs, C.loc r = some L ∧ L.blk = b ∧ C.heap r = .rows s rs ∧ RowsOk E C L s rs := fun b hb => by
    obtain ⟨r, hr, h2⟩ := List.mem_filterMap.1 (hand.owns.subset hb)
    simp only [blkOf, Option.map_eq_some_iff] at h2
    obtain ⟨L, h3, h4⟩ := h2
    obtain ⟨s, rs, h5⟩ := hliveG r hr
    have h6 : C.heap r = .rows s rs := by rw [h.heap]; exact h5
    have ho := h.objs r
    unfold ObjOk at ho
    rw [h6] at ho
    rcases ho with ⟨_, ho⟩ | ⟨L', h7, h8⟩
    · rw [h3] at ho; cases ho
    · rw [h3] at h7; cases h7
      exact ⟨r, hr, L, s, rs, h3, h4, h6, h8⟩
  have blkB : ∀ r cs, C.heap r = .box cs → ∀ L, C.loc r = some L → BoxOk E C L cs := fun r cs h6 L h3 => by
    have ho := h.objs r
    unfold ObjOk at ho
    rw [h6] at ho
    obtain ⟨L', h7, h8⟩ := ho
    rw [h3] at h7; cases h7; exact h8
  have ioOf : ∀ {b off}, anyC vals us b off → ∃ x k, Pm.io x k ∈ args := fun hc => by
    obtain ⟨x, k, r, o, L, cs, h1, _⟩ := hand.cells hc
    exact ⟨x, k, h1⟩
  have wrF : ∀ b off, writable C.w vals us b off → ¬ C.F b off ∧ (E.w0.heap.size ≤ b ∨ E.Wr b off) := fun b off hw => by
    rcases hw with hw | hw
    · obtain ⟨r, hr, L, s, rs, q1, q2, q3, q4⟩ := blkG b hw
      subst q2
      exact q4.2.2.2.2.2.1 off
    · obtain ⟨x, k, r, o, L, cs, q1, q2, q3, q4, q5, q6, q7, q8⟩ := hand.cells hw
      subst q6
      have := (blkB r cs (by rw [h.heap]; exact q3) L q5).2.1 (off - L.base) (by omega)
      rw [show L.base + (off - L.base) = off by omega] at this
      exact this
  have hsz : E.w0.heap.size ≤ C.w.heap.size := h.frame.size
  -- the call
  refine Calls.mono (hcall C.w Φ C.G us hlen hand.get ?_ ?_ ?_ ?_ ?_) ?_
  · refine List.Sublist.nodup (hand.owns.append hand.box) ?_
    rw [← List.filterMap_append]
    refine names_nodup h hnd fun r hr => ?_
    rcases List.mem_append.1 hr with hr | hr
    · obtain ⟨s, rs, e⟩ := hliveG r hr; rw [e]; rfl
    · obtain ⟨cs, e⟩ := hliveB r hr; rw [e]; rfl
  · intro b hb
    obtain ⟨r, hr, L, s, rs, q1, q2, q3, q4⟩ := blkG b hb
    subst q2
    exact q4.2.2.2.2.2.2
  · intro b hb
    obtain ⟨r, hr, h2⟩ := List.mem_filterMap.1 (hand.box.subset hb)
    simp only [blkOf, Option.map_eq_some_iff] at h2
    obtain ⟨L, h3, h4⟩ := h2
    obtain ⟨cs, h5⟩ := hliveB r hr
    subst h4
    have hio : ∃ x k, Pm.io x k ∈ args := by
      obtain ⟨p, hp, hr⟩ := List.mem_flatMap.1 hr
      cases p with
      | io x k => exact ⟨x, k, hp⟩
      | ro x => simp [Pm.box] at hr
      | mv x k => simp [Pm.box] at hr
    exact (blkB r cs (by rw [h.heap]; exact h5) L h3).2.2.imp (fun q off hφ => q off (hf hio _ _ hφ)) id
  · intro b hb; exact h.gnew b (Nat.le_trans hsz hb)
  · intro b off hφ
    rcases hg b off hφ with hF | ⟨r, L, q1, q2, q3⟩
    · rw [hF1] at hF
      exact ⟨h.fin b off hF, fun hw => (wrF b off hw).1 hF⟩
    · rw [hl1] at q1
      rw [hi1.heap] at q2
      obtain ⟨q4, q5⟩ := kills_live q2
      have q5' : (C.heap r).isDead = false := by rw [h.heap]; exact q5
      subst q3
      refine ⟨(h.objs r).lt q1 q5', fun hw => ?_⟩
      rcases hw with hw | hw
      · obtain ⟨r', hr', L', s, rs, p1, p2, p3, p4⟩ := blkG _ hw
        have := h.inj r r' L L' q1 p1 q5' (by rw [p3]; rfl) p2.symm
        subst this
        exact q4 (List.mem_append_left _ hr')
      · exact (wrF L.blk off (.inr hw)).1 (hf (ioOf hw) _ _ hφ)
  -- behind the call
  rintro e w' ⟨v, Fr, rfl, post⟩
  obtain ⟨CA, iA, wA, FA, GA, lA⟩ := h.kills (args.flatMap (·.gone st))
  have ioAt : ∀ x k, Pm.io x k ∈ args → ∃ r o cs L, x.ev st = .ptr r o ∧ st.heap r = .box cs ∧ o + k ≤ cs.length ∧ C.loc r = some L ∧ r ∉ args.flatMap (·.gone st) := fun x k hm => by
    obtain ⟨i, hi⟩ := List.getElem?_of_mem hm
    obtain ⟨r, o, L, cs, q1, q2, q3, q4, _⟩ := hand.io i x k hi
    refine ⟨r, o, cs, L, q1, q2, q3, q4, fun hr => ?_⟩
    obtain ⟨s, rs, q5⟩ := hliveG r hr
    rw [q2] at q5; cases q5
  obtain ⟨bl1, bl2, bl3⟩ := blanks_spec (st := st) args (st.kills (args.flatMap (·.gone st))) fun x k hm => by
    obtain ⟨r, o, cs, L, q1, q2, q3, q4, q5⟩ := ioAt x k hm
    obtain ⟨cs', q6, q7⟩ := kills_box q5 q2
    exact ⟨r, o, cs', q1, q6, by omega⟩
  obtain ⟨iB, leB⟩ := iA.weak bl1 bl2
  -- what lives there
  have liveB : ∀ q, ((blanks st args (st.kills (args.flatMap (·.gone st)))).heap q).isDead = false → q ∉ args.flatMap (·.gone st) ∧ (C.heap q).isDead = false := fun q hq => by
    rw [(bl2 q).dead] at hq
    obtain ⟨q1, q2⟩ := kills_live hq
    exact ⟨q1, by rw [h.heap]; exact q2⟩
  have apart : ∀ q L, C.loc q = some L → ((blanks st args (st.kills (args.flatMap (·.gone st)))).heap q).isDead = false → L.blk ∉ listA (ownsA C.w) vals us := fun q L hq hl hm => by
    obtain ⟨q1, q2⟩ := liveB q hl
    obtain ⟨r', hr', L', s, rs, p1, p2, p3, p4⟩ := blkG _ hm
    have := h.inj q r' L L' hq p1 q2 (by rw [p3]; rfl) p2.symm
    subst this
    exact q1 hr'
  obtain ⟨iC, leC⟩ := iB.world (w' := w') (W := writable C.w vals us) (F' := fun b off => C.F b off ∨ Fr b off) (by rw [show ({CA with heap := (blanks st args (st.kills (args.flatMap (·.gone st)))).heap} : Ctx).w = C.w from wA]; exact post.frame)
    (fun b off hw hF => (wrF b off hw).1 (by rw [← FA]; exact hF)) (fun b off hw => (wrF b off hw).2) (fun b off hF => .inl (by rw [← FA]; exact hF))
    (fun b off hF => by
      rcases hF with hF | hF
      · exact .inl (by rw [FA]; exact hF)
      · obtain ⟨p1, p2⟩ := post.fresh b off hF
        refine .inr ⟨p1, ?_, fun r L hl hd hbb => ?_⟩
        · show CA.G b
          rw [GA]
          rcases p2 with p2 | p2
          · exact h.gnew b (Nat.le_trans hsz p2)
          · obtain ⟨r', hr', L', s, rs, q1, q2, q3, q4⟩ := blkG _ p2
            subst q2
            exact q4.2.2.2.2.2.2
        rw [show ({CA with heap := (blanks st args (st.kills (args.flatMap (·.gone st)))).heap} : Ctx).loc = C.loc from lA] at hl
        subst hbb
        rcases p2 with p2 | p2
        · exact absurd ((h.objs r).lt hl (liveB r hd).2) (Nat.not_lt.2 p2)
        · exact apart r L hl hd p2)
    (fun r cs L j c hr hl hj hw => by
      have hl : C.loc r = some L := by rw [← lA]; exact hl
      have hd : ((blanks st args (st.kills (args.flatMap (·.gone st)))).heap r).isDead = false := by
        have : (blanks st args (st.kills (args.flatMap (·.gone st)))).heap r = .box cs := hr
        rw [this]; rfl
      rcases hw with hw | hw
      · exact absurd hw (apart r L hl hd)
      · refine ⟨?_, ?_⟩
        · obtain ⟨x, k, r', o, L', cs', q1, q2, q3, q4, q5, q6, q7, q8⟩ := hand.cells hw
          have := h.inj r r' L L' hl q5 (liveB r hd).2 (by rw [h.heap, q3]; rfl) q6
          subst this
          rw [hl] at q5; cases q5
          exact bl3 x k r o cs j c q1 q2 hr (by omega) (by omega) hj
        · have hw' := (post.ranges _ _).2 hw
          have : ∀ (os : List V) (us : List Value), (∀ (i : Nat) (o : V), os[i]? = some o → RA (bare w' (fun b off => Φ b off ∨ Fr b off) C.G) o (us.getD i undef)) → anyC os us L.blk (L.base + j) → ∃ u, w'.cell? ⟨L.blk, L.base + j, none⟩ = some u ∧ u.oneCell' = true := by
            intro os
            induction os with
            | nil => intro us _ hc; exact absurd hc (by cases us <;> simp [anyC])
            | cons o os ih =>
              intro us hr hc
              cases us with
              | nil => exact absurd hc (by simp [anyC])
              | cons u us =>
                simp only [anyC] at hc
                rcases hc with hc | hc
                · have hra := hr 0 o rfl
                  simp only [List.getD_cons_zero] at hra
                  cases o with
                  | io cs2 =>
                    obtain ⟨b, base, cur, e, g, p1, p2, p3⟩ := hra
                    subst p1
                    simp only [boxC] at hc
                    obtain ⟨e1, e2, e3⟩ := hc
                    obtain ⟨c', hc'⟩ : ∃ c', cs2[L.base + j - base]? = some c' := ⟨cs2[L.base + j - base]'(by omega), by simp⟩
                    obtain ⟨a1, a2, _⟩ := p3 _ c' hc'
                    rw [show base + (L.base + j - base) = L.base + j by omega] at a1
                    have p2' : w'.heap[L.blk]? = some (.cells cur e (0, 0)) := by rw [e1]; exact p2
                    exact ⟨_, by rw [cell_of_row _ _ _ _ _ _ p2']; exact a1, a2⟩
                  | _ => exact absurd hc (by simp [boxC])
                · exact ih us (fun i o' hi => by simpa using hr (i + 1) o' (by simpa using hi)) hc
          exact this outs us post.routs hw')
    (fun r s rs L off hr hl hw => by
      have hl : C.loc r = some L := by rw [← lA]; exact hl
      have hr' : (blanks st args (st.kills (args.flatMap (·.gone st)))).heap r = .rows s rs := hr
      have hd : ((blanks st args (st.kills (args.flatMap (·.gone st)))).heap r).isDead = false := by rw [hr']; rfl
      rcases hw with hw | hw
      · exact absurd hw (apart r L hl hd)
      · obtain ⟨x, k, r', o, L', cs', q1, q2, q3, q4, q5, q6, q7, q8⟩ := hand.cells hw
        have := h.inj r r' L L' hl q5 (liveB r hd).2 (by rw [h.heap, q3]; rfl) q6
        subst this
        obtain ⟨cs2, q9, _⟩ := kills_box (liveB r hd).1 q3
        rcases bl2 r with e | ⟨c1, c2, e1, e2, _⟩
        · rw [hr', q9] at e; cases e
        · rw [hr'] at e2; cases e2)
  have lC : ({CA with heap := (blanks st args (st.kills (args.flatMap (·.gone st)))).heap, w := w', F := fun b off => C.F b off ∨ Fr b off} : Ctx).loc = C.loc := lA
  -- free blocks
  have free : ∀ b ∈ ownsR res v ++ listA (ownsA w') outs us, Free E {CA with heap := (blanks st args (st.kills (args.flatMap (·.gone st)))).heap, w := w', F := fun b off => C.F b off ∨ Fr b off} b := fun b hb => by
    obtain ⟨p1, p2⟩ := post.own b hb
    rcases p1 with p1 | p1
    · refine ⟨fun off hF => ?_, ?_, fun off => .inl (Nat.le_trans hsz p1), fun r L hl hd hbb => ?_⟩
      · rcases hF with hF | hF
        · exact absurd (h.fin b off hF) (Nat.not_lt.2 p1)
        · exact p2 off hF
      · show CA.G b
        rw [GA]; exact h.gnew b (Nat.le_trans hsz p1)
      · have hl : C.loc r = some L := by rw [← lA]; exact hl
        subst hbb
        exact absurd ((h.objs r).lt hl (liveB r hd).2) (Nat.not_lt.2 p1)
    · obtain ⟨r', hr', L', s, rs, q1, q2, q3, q4⟩ := blkG _ p1
      subst q2
      refine ⟨fun off hF => ?_, ?_, fun off => (q4.2.2.2.2.2.1 off).2, fun r L hl hd hbb => ?_⟩
      · rcases hF with hF | hF
        · exact (q4.2.2.2.2.2.1 off).1 hF
        · exact p2 off hF
      · show CA.G L'.blk
        rw [GA]; exact q4.2.2.2.2.2.2
      · have hl : C.loc r = some L := by rw [← lA]; exact hl
        exact apart r L hl hd (by rw [hbb]; exact p1)
  obtain ⟨nd1, nd2, ndj⟩ := List.nodup_append.1 post.nodup
  obtain ⟨nd3, _, _⟩ := List.nodup_append.1 nd2
  -- variables come back
  obtain ⟨CD, iD, wD, leD, freeD, deadD⟩ := backs_sound (B := bare w' (fun b off => C.F b off ∨ Fr b off) C.G) (fun _ => rfl) args outs us iC
    (by rw [post.len, ← hlen']) (by rw [post.len, hlen]) (fun _ _ h => h) (fun b hb => by show CA.G b; rw [GA]; exact hb) rfl
    (fun i x k hi => by
      obtain ⟨r, o, L, cs, q1, q2, q3, q4, q5, cv, q6⟩ := hand.io i x k hi
      have hlt : i < outs.length := by rw [post.len]; exact (List.getElem?_eq_some_iff.1 q6).1
      have ho : outs[i]? = some outs[i] := by simp
      obtain ⟨r', off', cs', p1, p2, p3, p4⟩ := outsOk_get hout i x k _ hi ho
      rw [q1] at p1; cases p1
      have hm := List.mem_of_getElem? hi
      have hrn : r ∉ args.flatMap (·.gone st) := fun hr => by
        obtain ⟨s, rs, q7⟩ := hliveG r hr
        rw [q2] at q7; cases q7
      obtain ⟨cs2, q9, q10⟩ := kills_box hrn q2
      have hcs3 : ∃ cs3, (blanks st args (st.kills (args.flatMap (·.gone st)))).heap r = .box cs3 ∧ cs3.length = cs.length := by
        rcases bl2 r with e | ⟨c1, c2, e1, e2, e3, _⟩
        · exact ⟨cs2, by rw [e]; exact q9, q10⟩
        · rw [q9] at e1; cases e1
          exact ⟨c2, e2, by rw [e3]; exact q10⟩
      obtain ⟨cs3, r1, r2⟩ := hcs3
      have hio := post.routs i _ ho
      rw [p2] at hio
      refine ⟨_, ho, ⟨r, o, L, cs3, cs', q1, r1, by omega, by show CA.loc r = some L; rw [lA]; exact q4, q5, p2, p3, ?_, ?_, p4⟩⟩
      · simp only [oldC, q2]; simp; omega
      · exact IoR_mono (C := bare w' (fun b off => Φ b off ∨ Fr b off) C.G) (C' := bare w' (fun b off => C.F b off ∨ Fr b off) C.G) (Le_bare (fun b off hφ => hφ.imp (hf ⟨x, k, hm⟩ b off) id) (fun _ h => h) rfl) rfl hio)
    hndG (fun r hr => by rw [(bl2 r).dead, kills_mem hr]; rfl) hndB (fun b hb => free b (List.mem_append_right _ hb)) nd3
  -- the result
  have hwD : CD.w = w' := wD
  have hres : RB CD res v := RB_mono (C := bare w' (fun b off => (fr = false ∧ Φ b off) ∨ Fr b off) C.G)
    (Le_bare (fun b off hφ => (leD.F b off (by
      rcases hφ with ⟨h1, h2⟩ | h1
      · exact .inl (he h1 b off h2)
      · exact .inr h1)).1) (fun b hb => leD.G b (by show CA.G b; rw [GA]; exact hb)) hwD) hwD post.rres
  obtain ⟨CE, tE, rE⟩ := thaw_sound iD hres (fun b hb => freeD b (free b (List.mem_append_left _ hb)) fun hm => ndj b hb b (List.mem_append_left _ hm) rfl) nd1 hobn
    (fun r hr => by
      have hd := List.all_eq_true.1 hobd r hr
      refine deadD r (by rw [(bl2 r).dead]; exact kills_dead hd) fun hm => ?_
      obtain ⟨s, rs, q⟩ := hliveG r hm
      rw [q] at hd; simp [AO.isDead] at hd)
  exact ⟨v, CE, rfl, tE.w.trans hwD, tE.inv, rE⟩

end Go.Ab
