/-
  What a function does, from what its text comes to: the theorem.
-/
import Derived.Test.YtleilicpggnemaaMachS24
namespace Go.Ab
open Go

variable {P : Program}

theorem RA_shG {C : Ctx} {v : V} {u : Value} (h : RA C v u) (G' : Nat → Prop) : RA { C with G := G' } v.sh u := by
  by_cases hv : ∃ cs, v = .io cs
  · obtain ⟨cs, rfl⟩ := hv
    obtain ⟨b, base, cur, e, g, h1, h2, h3⟩ := h
    simp only [V.sh, shL_eq]
    refine ⟨b, base, cur, e, g, h1, h2, fun j c hj => ?_⟩
    simp only [List.getElem?_map, Option.map_eq_some_iff] at hj
    obtain ⟨c', q1, rfl⟩ := hj
    exact ⟨(h3 j c' q1).1, (h3 j c' q1).2.1, RB1_shG (h3 j c' q1).2.2 G'⟩
  · have hne : ∀ cs, v ≠ .io cs := fun cs e => hv ⟨cs, e⟩
    have hne' : ∀ cs, v.sh ≠ .io cs := fun cs e => by
      cases v <;> simp only [V.sh] at e <;> first | exact hne _ rfl | cases e
    rw [RA_other hne] at h
    rw [RA_other hne']
    exact RB1_shG h G'

theorem anyC_at : ∀ (l : List V) (us : List Value) (i : Nat) {cs : List V} {b base : Nat}, l[i]? = some (.io cs) → us.getD i undef = .pointer (some ⟨b, base, none⟩) →
    b ∈ listA boxA l us ∧ ∀ j, j < cs.length → anyC l us b (base + j)
  | [], _, i, _, _, _, h, _ => by simp at h
  | _ :: _, [], i, _, _, _, _, h => by simp [List.getD, undef] at h
  | v :: l, u :: us, i, cs, b, base, h1, h2 => by
    cases i with
    | zero =>
      simp only [List.getElem?_cons_zero, Option.some.injEq] at h1
      simp only [List.getD_cons_zero] at h2
      subst h1 h2
      exact ⟨List.mem_append_left _ (by simp [boxA]), fun j hj => .inl (by simp [boxC, hj])⟩
    | succ i =>
      obtain ⟨q1, q2⟩ := anyC_at l us i (by simpa using h1) (by simpa using h2)
      exact ⟨List.mem_append_right _ q1, fun j hj => .inr (q2 j hj)⟩

theorem callsV_of (hD : RegD P) {f : FuncId} {fn : Func} {code : Code} (hf : P.funcs[f]? = some fn) (hb : fn.body = some code) {c : Go.Ab.C} {pins ns : List Nat} {args : List V} {rvs : List RV} {res : V} {outs : List V} {fr : Bool}
    (hok : okC P ⟨fn.ntmps, pins⟩ c code = true) (hrv : okRVs P rvs fn.results.toList = true) (hlen : args.length ≤ fn.ntmps) (hpins : ∀ i ∈ pins, i < args.length) (hio : ∀ (i : Nat) cs, args[i]? = some (.io cs) → i ∈ pins)
    (hsh : args.map V.sh = args) (hns : ns.Nodup)
    (hwp : wpC P c (St.enter args ns) fun e st => (e = .normal ∨ e = .ret) ∧ Leave args rvs res outs fr st) : CallsV P f args res outs fr := by
  intro w F G vs hl hra hnd hG hB hGn hF
  let G0 : Nat → Prop := fun b => w.heap.size ≤ b ∨ b ∈ listA (ownsA w) args vs
  let E : Ent := { w0 := w, Wr := writable w args vs, F0 := F, G0 := G0, pars := vs }
  let n : Sz := ⟨fn.ntmps, pins⟩
  let a : Act := { tmps := vs.toArray ++ Array.replicate (fn.ntmps - vs.length) undef, defers := [] }
  have hG0 : ∀ b, G0 b → G b := fun b hb => hb.elim (hGn b) (hG b)
  have atmp : ∀ i, i < vs.length → a.tmps.getD i undef = vs.getD i undef := fun i hi => by
    simp [a, Array.getD_eq_getD_getElem?, Array.getElem?_append, hi]
  have i0 : Inv E n (bare w F G0) St.first a :=
    { heap := rfl, env := fun t => .undef _, objs := fun r => by unfold ObjOk; trivial
      inj := fun r r' L L' h1 => by cases h1
      fin := fun b off hf => (hF b off hf).1
      gnew := fun b hb => .inl hb
      frame := ⟨rfl, rfl, rfl, Nat.le_refl _, fun b _ => sameBut_refl _⟩
      defers := rfl
      size := by simp [a, n]; omega
      par := fun i hi => atmp i (by rw [← hl]; exact hpins i hi)
      fnew := fun b off hf => .inl hf, gsub := fun b hb => hb }
  have hra0 : ∀ (j : Nat) (c : V), args[j]? = some c → RA (bare w F G0) c (vs.getD j undef) := fun j c hj => by
    have h1 := RA_shG (hra j c hj) G0
    have h2 : c.sh = c := by
      have : (args.map V.sh)[j]? = some c.sh := by simp [hj]
      rw [hsh, hj] at this
      exact (Option.some.inj this).symm
    rw [h2] at h1
    exact h1
  obtain ⟨C', os, bg, l1, r1⟩ := enterL_sound args vs ns i0 hl hra0
    (fun b hb => ⟨fun off hf => (hF b off hf).2 (.inl hb), .inr hb, fun off => .inr (.inl hb), fun r L h1 => by cases h1⟩) hnd
    (fun i cs hi => by
      obtain ⟨b, base, cur, e, g, h1, h2, h3⟩ := hra i _ hi
      obtain ⟨q1, q2⟩ := anyC_at args vs i hi h1
      refine ⟨b, base, h1, .inr fun hg => ?_, fun j hj => ⟨fun hf => (hF b _ hf).2 (.inr (q2 j hj)), .inr (q2 j hj)⟩, fun r L h1 => by cases h1⟩
      rcases hg with hg | hg
      · exact absurd (block_lt h2) (Nat.not_lt.2 hg)
      · exact (List.nodup_append.1 hnd).2.2 b hg b q1 rfl) hns (fun r _ => rfl)
  have i1 : Inv E n C' (St.enter args ns) a :=
    { bg.inv with
      heap := bg.inv.heap
      env := fun t => by
        show R C' ((enterL args ns).1.getD t .undef) _
        by_cases ht : t < vs.length
        · have hj : (enterL args ns).1[t]? = some ((enterL args ns).1[t]'(by omega)) := by simp
          have := r1 t _ hj
          rw [atmp t ht]
          simpa [List.getD, hj] using this
        · have : (enterL args ns).1[t]? = none := by simp; omega
          simp only [List.getD, this, Option.getD_none]
          exact .undef _ }
  have hw : C'.w = w := bg.w
  have key : code.wp P (bodyPost P fn fun e w' => ∃ (v : Value) (Fr : Nat → Nat → Prop), e = .returned v ∧ Post w F G args vs res outs fr v Fr w') a C'.w := by
    refine wpC_sound hD c code hok i1 hwp fun e C2 st a2 i2 hq => ?_
    obtain ⟨he, lv⟩ := hq
    suffices hfin : a2.defers = [] ∧ ∃ v, (results fn a2.tmps).run P C2.w = .ok v C2.w ∧ ∃ (v' : Value) (Fr : Nat → Nat → Prop), Ending.returned v = .returned v' ∧ Post w F G args vs res outs fr v' Fr C2.w by
      rcases he with rfl | rfl <;> exact hfin
    refine ⟨i2.defers, ?_⟩
    obtain ⟨q1, q2⟩ := okRVs_get hrv
    have lok := lv.ok
    simp only [List.all_eq_true] at lok
    -- the results
    obtain ⟨us, u1, u2⟩ := list_choose undef rvs (fun i r u => (∀ x, fn.results.toList[i]? = some x → rvRun P a2.tmps C2.w x u) ∧ R C2 (r.ev st) u) fun i r hi => by
      obtain ⟨x, x1, x2⟩ := q2 i r hi
      have := lok r (List.mem_of_getElem? hi)
      simp only [Bool.and_eq_true] at this
      obtain ⟨u, h1, h2⟩ := rv_run i2 x2 this.1
      exact ⟨u, fun x' hx' => by rw [x1] at hx'; cases hx'; exact h1, h2⟩
    have hrun := run_results' (P := P) (fn := fn) (tmps := a2.tmps) (w := C2.w) (us := us) (by rw [u1, q1]) fun i x hi => by
      have hlt : i < rvs.length := by rw [q1]; exact (List.getElem?_eq_some_iff.1 hi).1
      exact (u2 i rvs[i] (by simp)).1 x hi
    refine ⟨_, hrun, _, fun b off => C2.F b off ∧ C2.G b, rfl, ?_⟩
    have gG : ∀ b, C2.G b → G b := fun b hb => hG0 b (i2.gsub b hb)
    have hclR : ∀ c u, R C2 c u → c.closed = true → (!fr || c.fresh) = true → R (bare C2.w (fun b off => (fr = false ∧ F b off) ∨ (C2.F b off ∧ C2.G b)) G) c u := fun c u hr hc hg => by
      cases hfr : fr with
      | false =>
        exact R.of_closed (C := C2) (C' := bare C2.w (fun b off => (false = false ∧ F b off) ∨ (C2.F b off ∧ C2.G b)) G) (fun b off hf => ⟨(i2.fnew b off hf).elim (fun h => Or.inl ⟨rfl, h⟩) (fun h => Or.inr ⟨hf, h⟩), rfl⟩) gG hr hc
      | true =>
        rw [hfr] at hg
        exact R_fresh (C := C2) (B := bare C2.w (fun b off => (true = false ∧ F b off) ∨ (C2.F b off ∧ C2.G b)) G) rfl (fun b off h1 h2 => Or.inr ⟨h1, h2⟩) gG hr hc (by simpa using hg)
    have hclO : ∀ c u, R C2 c u → c.closed = true → R (bare C2.w (fun b off => F b off ∨ (C2.F b off ∧ C2.G b)) G) c u := fun c u hr hc =>
      R.of_closed (C := C2) (C' := bare C2.w (fun b off => F b off ∨ (C2.F b off ∧ C2.G b)) G) (fun b off hf => ⟨(i2.fnew b off hf).elim Or.inl (fun h => Or.inr ⟨hf, h⟩), rfl⟩) gG hr hc
    have hres : ∀ (i : Nat) r, rvs[i]? = some r → _ := fun i r hi => res_good i2 (B := bare C2.w (fun b off => (fr = false ∧ F b off) ∨ (C2.F b off ∧ C2.G b)) G) rfl hclR (u2 i r hi).2 (lok r (List.mem_of_getElem? hi))
    obtain ⟨p1, p2⟩ := pack_good (B := bare C2.w (fun b off => (fr = false ∧ F b off) ∨ (C2.F b off ∧ C2.G b)) G) (rvs.map fun r => resG st (r.ev st)) us (by simp [u1]) (fun i v hi => by
      simp only [List.getElem?_map, Option.map_eq_some_iff] at hi
      obtain ⟨r, hr, rfl⟩ := hi
      exact ⟨(hres i r hr).1, (hres i r hr).2.1⟩)
    have sub1 : (ownsT2 (rvs.map fun r => resG st (r.ev st)) us).Sublist ((rvs.flatMap fun r => (r.ev st).cells.flatMap objC).filterMap (blkOf C2)) := by
      have := ownsT2_sub (C := C2) (rvs.map fun r => r.ev st) us (resG st) (fun v => v.cells.flatMap objC) (by simp [u1]) (fun i v hi => by
        simp only [List.getElem?_map, Option.map_eq_some_iff] at hi
        obtain ⟨r, hr, rfl⟩ := hi
        exact (hres i r hr).2.2)
      simpa [List.map_map, List.flatMap_map, Function.comp_def] using this
    have ho := outs_sound i2 (B := bare C2.w (fun b off => F b off ∨ (C2.F b off ∧ C2.G b)) G) rfl hclO args vs 0 hl (fun j cs hj => by
      have := i2.par j (hio j cs hj)
      rw [Nat.zero_add]; exact this) lv.oks
    rw [lv.res, lv.outs]
    have live : ∀ r ∈ (rvs.flatMap fun r => (r.ev st).cells.flatMap objC) ++ outCat (outNames st) 0 args, ∃ s rs, st.heap r = .rows s rs := fun r hr => by
      rcases List.mem_append.1 hr with hr | hr
      · obtain ⟨x, hx, hr⟩ := List.mem_flatMap.1 hr
        have := lok x hx
        simp only [Bool.and_eq_true, List.all_eq_true] at this
        exact objC_live this.2 r hr
      · exact ho.live r hr
    have hown : ∀ b ∈ ((rvs.flatMap fun r => (r.ev st).cells.flatMap objC) ++ outCat (outNames st) 0 args).filterMap (blkOf C2), (∀ off, ¬ C2.F b off) ∧ C2.G b := fun b hb => by
      obtain ⟨r, hr, h2⟩ := List.mem_filterMap.1 hb
      simp only [blkOf, Option.map_eq_some_iff] at h2
      obtain ⟨L, h3, rfl⟩ := h2
      obtain ⟨s, rs, h5⟩ := live r hr
      have h6 : C2.heap r = .rows s rs := by rw [i2.heap]; exact h5
      have hob := i2.objs r
      unfold ObjOk at hob
      rw [h6] at hob
      rcases hob with ⟨_, hob⟩ | ⟨L', h7, h8⟩
      · rw [h3] at hob; cases hob
      · rw [h3] at h7; cases h7
        exact ⟨fun off => (h8.2.2.2.2.2.1 off).1, h8.2.2.2.2.2.2⟩
    exact { fresh := fun b off hfr => ⟨i2.fin b off hfr.1, i2.gsub b hfr.2⟩
            rres := p1
            len := ho.len
            routs := ho.r
            boxes := ho.box
            ranges := ho.rng
            nodup := by
              rw [p2]
              refine List.Sublist.nodup (sub1.append (ho.owns.append ho.boxes)) ?_
              rw [← List.filterMap_append, ← List.filterMap_append]
              refine names_nodup i2 (nodupB_iff lv.nodup) fun r hr => ?_
              rw [← List.append_assoc] at hr
              rcases List.mem_append.1 hr with hr | hr
              · obtain ⟨s, rs, e⟩ := live r hr; rw [e]; rfl
              · obtain ⟨cs, e⟩ := ho.liveB r hr; rw [e]; rfl
            own := fun b hb => by
              rw [p2] at hb
              have hm : b ∈ ((rvs.flatMap fun r => (r.ev st).cells.flatMap objC) ++ outCat (outNames st) 0 args).filterMap (blkOf C2) := by
                rw [List.filterMap_append]
                exact (sub1.append ho.owns).subset hb
              obtain ⟨h1, h2⟩ := hown b hm
              exact ⟨i2.gsub b h2, fun off hfr => h1 off hfr.1⟩
            frame := i2.frame }
  rw [hw] at key
  refine Calls.mono (calls_of_wp hf hb (args := vs.toArray) (by simpa [a] using key)) fun e w' h => h

end Go.Ab
