/-
  The laws StatePlaces and StateNew.
-/
import Derived.Test.YteiafekbmkbldaaK14
import Derived.Test.YteiafekbmkbldaaK17
import Derived.Test.YteiafekbmkbldaaK18
import Derived.Test.YteiafekbmkbldaaK19
set_option linter.all false
namespace Go.Ab
open Go Go.Proofs
set_option maxRecDepth 100000

theorem run_len {s : SD} (h : Fit s) : (runnables s).length ≤ 1000000000 := by
  have := flat_len s.ps; have := h.ps; have := h.gl
  unfold runnables; rw [List.length_append]; omega
set_option maxHeartbeats 32000000 in
theorem c4 (s : SD) (hs : Held s) (a b : Int) : CallsV Try.prog 4 [.agg (stC s), .int .i64 a, .int .i64 b] (.bool true) [.undef, .undef, .undef] true := by
  obtain ⟨bs, hbs⟩ : ∃ b, b = smallS s := ⟨_, rfl⟩
  have ks := c8 s hs bs hbs
  have kf := c10
  have hgl := hs.gs
  cases bs with
  | false =>
    clear hbs hs
    obtain ⟨prog, gs, ps, ms, gl, c0, c1, c2, c3, w0, w1, w2, w3, ts, ck, pr⟩ := s
    obtain ⟨rp, rg, rq, rm, rl, r0, r1, r2, r3, rt, ⟨h_rp, s_rp, l_rp⟩, ⟨h_rg, s_rg, l_rg⟩, ⟨h_rq, s_rq, l_rq⟩, ⟨h_rm, s_rm, l_rm⟩, ⟨h_rl, s_rl, l_rl⟩, ⟨h_r0, s_r0, l_r0⟩, ⟨h_r1, s_r1, l_r1⟩, ⟨h_r2, s_r2, l_r2⟩, ⟨h_r3, s_r3, l_r3⟩, ⟨h_rt, s_rt, l_rt⟩, hst_⟩ := stR prog gs ps ms gl c0 c1 c2 c3 w0 w1 w2 w3 ts ck pr
    rw [hst_] at ks ⊢
    refine callsV_q hD Try.func4 ok4 rfl rfl (by simp only [List.map_cons, List.map_nil, V.sh, V.shL, stL, s_rp, s_rg, s_rq, s_rm, s_rl, s_r0, s_r1, s_r2, s_r3, s_rt]) fun P Q hP hQ => ?_
    clear hst_
    try rw [← hP] at ks
    try rw [← hP] at kf
    repeat' (cbv; first | refine .y ?_ | refine .n ?_ | refine .split (fun hc => ?_) fun hc => ?_ | refine EqQ.ints rfl (fun hc => ?_) fun hc => ?_ | refine .go ks ?_ | refine .go kf ?_ | refine .wa fun v hv => ?_ | refine .ra fun v hv => ?_ | refine .qa fun v hv => ?_ | refine .len fun v hv => ?_ | refine .all True.intro fun v hv => ?_ | refine Lt.to (by decide) rfl ?_ | (refine .au fun vr vn hvr hvn hvl => ?_; try simp only [List.length_cons, List.length_nil] at hvl) | fail)
    all_goals (try cbv)
    (refine hQ _ ?_; exact ⟨rfl, rfl, rfl, rfl, rfl⟩)
  | true =>
  have fs := fit_small hbs.symm
  obtain ⟨bm, hbm⟩ : ∃ b, b = mayS s := ⟨_, rfl⟩
  have cm := c14 s fs bm hbm
  cases bm with
  | false =>
    clear hbs hs hbm fs
    obtain ⟨prog, gs, ps, ms, gl, c0, c1, c2, c3, w0, w1, w2, w3, ts, ck, pr⟩ := s
    obtain ⟨rp, rg, rq, rm, rl, r0, r1, r2, r3, rt, ⟨h_rp, s_rp, l_rp⟩, ⟨h_rg, s_rg, l_rg⟩, ⟨h_rq, s_rq, l_rq⟩, ⟨h_rm, s_rm, l_rm⟩, ⟨h_rl, s_rl, l_rl⟩, ⟨h_r0, s_r0, l_r0⟩, ⟨h_r1, s_r1, l_r1⟩, ⟨h_r2, s_r2, l_r2⟩, ⟨h_r3, s_r3, l_r3⟩, ⟨h_rt, s_rt, l_rt⟩, hst_⟩ := stR prog gs ps ms gl c0 c1 c2 c3 w0 w1 w2 w3 ts ck pr
    rw [hst_] at ks cm ⊢
    refine callsV_q hD Try.func4 ok4 rfl rfl (by simp only [List.map_cons, List.map_nil, V.sh, V.shL, stL, s_rp, s_rg, s_rq, s_rm, s_rl, s_r0, s_r1, s_r2, s_r3, s_rt]) fun P Q hP hQ => ?_
    clear hst_
    try rw [← hP] at ks
    try rw [← hP] at kf
    try rw [← hP] at cm
    repeat' (cbv; first | refine .y ?_ | refine .n ?_ | refine .split (fun hc => ?_) fun hc => ?_ | refine EqQ.ints rfl (fun hc => ?_) fun hc => ?_ | refine .go ks ?_ | refine .go kf ?_ | refine .go cm ?_ | refine .wa fun v hv => ?_ | refine .ra fun v hv => ?_ | refine .qa fun v hv => ?_ | refine .len fun v hv => ?_ | refine .all True.intro fun v hv => ?_ | refine Lt.to (by decide) rfl ?_ | (refine .au fun vr vn hvr hvn hvl => ?_; try simp only [List.length_cons, List.length_nil] at hvl) | fail)
    all_goals (try cbv)
    (refine hQ _ ?_; exact ⟨rfl, rfl, rfl, rfl, rfl⟩)
  | true =>
  by_cases hin : 1 ≤ a ∧ a.toNat ≤ s.gs.length ∧ 1 ≤ b ∧ b.toNat ≤ s.gs.length
  · obtain ⟨a1, a2, b1, b2⟩ := hin
    have fa := facts_of hbm.symm a1 (show a ≤ s.gs.length by omega)
    have fb := facts_of hbm.symm b1 (show b ≤ s.gs.length by omega)
    obtain ⟨x, hx⟩ : ∃ x, x = s.gs.getD (a.toNat - 1) default := ⟨_, rfl⟩
    have hxg : s.gs[a.toNat - 1]? = some x := by
      rw [hx, List.getD_eq_getElem?_getD, List.getElem?_eq_getElem (by omega)]; rfl
    obtain ⟨y, hy⟩ : ∃ y, y = placeS s a := ⟨_, rfl⟩
    obtain ⟨z, hz⟩ : ∃ z, z = placeS s b := ⟨_, rfl⟩
    have ca := c16 s fs a y hy
    have cb := c16 s fs b z hz
    rw [← hx, ← hy] at fa
    rw [← hz] at fb
    have cr := c23 s fs.ps fs.gl
    obtain ⟨t, ht⟩ : ∃ t, t = timesL (runnables s) a := ⟨_, rfl⟩
    have ct := c22 (runnables s) (by have := run_len fs; omega) a t ht
    have cu := c19 s fs y.2
    obtain ⟨q, hq⟩ : ∃ q, q = queueOf (s.ps.getD (y.2.toNat - 1) default) := ⟨_, rfl⟩
    have ql := queue_len s y.2
    rw [← hq] at ql
    obtain ⟨tq, htq⟩ : ∃ t, t = timesL q a := ⟨_, rfl⟩
    have cq := c22 q (by omega) a tq htq
    have hnext : a = b ∨ y.2 ≠ z.2 ∨ (z.1 ≠ 4 ∧ z.1 ≠ 7) ∨ (y.1 ≠ 4 ∧ y.1 ≠ 7) := by
      by_cases q1 : (z.1 ≠ 4 ∧ z.1 ≠ 7) ∨ (y.1 ≠ 4 ∧ y.1 ≠ 7)
      · exact .inr (.inr q1)
      · by_cases q2 : y.2 = z.2
        · have g1 := fa.onm (by omega)
          have g2 := fb.onm (by omega)
          rw [q2] at g1
          exact .inl (g1.2.2.symm.trans g2.2.2)
        · exact .inr (.inl q2)
    have hqq : (y.1 = 1 ∨ y.1 = 2) → queueV s y.2 = .sl true 1 (q.map iC) ∧ tq = 1 := fun e => by
      obtain ⟨e1, e2, e3⟩ := fa.inq e
      unfold queueV
      rw [if_neg (by rw [← hbm]; simp; omega), htq, hq]
      exact ⟨rfl, e3⟩
    have hkind := fa.kind
    have hmany := fa.many
    rw [← ht] at hmany
    clear fa fb ht htq hq hx hy hz hs hbs hbm
    obtain ⟨lr, hlr⟩ : ∃ l, l = runnables s := ⟨_, rfl⟩
    rw [← hlr] at cr ct
    clear hlr
    obtain ⟨ru, h_ru⟩ : ∃ r, r = lr.map iC := ⟨_, rfl⟩
    have s_ru : V.shR ru = ru := by rw [h_ru]; exact shR_iC lr
    have l_ru : ru.length = lr.length := by simp [h_ru]
    rw [← h_ru] at cr ct
    clear h_ru l_ru
    obtain ⟨rw, h_rw⟩ : ∃ r, r = q.map iC := ⟨_, rfl⟩
    have s_rw : V.shR rw = rw := by rw [h_rw]; exact shR_iC q
    have l_rw : rw.length = q.length := by simp [h_rw]
    rw [← h_rw] at cq hqq
    clear h_rw l_rw
    obtain ⟨x0, x1, x2, x3, x4⟩ := x
    obtain ⟨yk, yn⟩ := y
    obtain ⟨zk, zn⟩ := z
    dsimp only at hkind hmany hqq hnext cu
    obtain ⟨qv, hqv⟩ : ∃ v, v = queueV s yn := ⟨_, rfl⟩
    rw [← hqv] at cu hqq
    clear hqv fs
    obtain ⟨prog, gs, ps, ms, gl, c0, c1, c2, c3, w0, w1, w2, w3, ts, ck, pr⟩ := s
    obtain ⟨rp, rg, rq, rm, rl, r0, r1, r2, r3, rt, ⟨h_rp, s_rp, l_rp⟩, ⟨h_rg, s_rg, l_rg⟩, ⟨h_rq, s_rq, l_rq⟩, ⟨h_rm, s_rm, l_rm⟩, ⟨h_rl, s_rl, l_rl⟩, ⟨h_r0, s_r0, l_r0⟩, ⟨h_r1, s_r1, l_r1⟩, ⟨h_r2, s_r2, l_r2⟩, ⟨h_r3, s_r3, l_r3⟩, ⟨h_rt, s_rt, l_rt⟩, hst_⟩ := stR prog gs ps ms gl c0 c1 c2 c3 w0 w1 w2 w3 ts ck pr
    dsimp only at a2 b2 hxg hgl
    rw [hst_] at ks cm ca cb cr cu ⊢
    refine callsV_q hD Try.func4 ok4 rfl rfl (by simp only [List.map_cons, List.map_nil, V.sh, V.shL, stL, s_rp, s_rg, s_rq, s_rm, s_rl, s_r0, s_r1, s_r2, s_r3, s_rt]) fun P Q hP hQ => ?_
    clear hst_
    rw [← hP] at ks kf cm ca cb cr ct cu cq
    obtain ⟨k, hk⟩ : ∃ k : Int, k = a - 1 := ⟨_, rfl⟩
    have ga : rg.getD k.toNat [] = [.int .i64 x0, .int .i64 x1, .int .i64 x2, .int .i64 x3, .int .i64 x4] := by rw [show k.toNat = a.toNat - 1 by omega]; exact getD_rows h_rg hxg
    obtain ⟨mg, hmg⟩ : ∃ n : Int, 0 ≤ n ∧ n.toNat = rg.length := ⟨rg.length, by omega, by omega⟩
    clear hxg h_rp h_rg h_rq h_rm h_rl h_r0 h_r1 h_r2 h_r3 h_rt l_rp l_rq l_rm l_rl l_r0 l_r1 l_r2 l_r3 l_rt
    rcases hkind with ⟨e1, e2 | e2 | e2⟩ | ⟨e1, e2⟩ | ⟨e1, e2 | e2⟩ | ⟨e1, e2⟩ | ⟨e1, e2⟩
    · obtain ⟨e3, e4⟩ := hqq (.inl e2)
      rw [if_pos e1] at hmany
      subst e1 e2 e3 e4 hmany
      clear hnext
      repeat' (cbv; first | refine .y ?_ | refine .n ?_ | refine .split (fun hc => ?_) fun hc => ?_ | refine EqQ.ints rfl (fun hc => ?_) fun hc => ?_ | refine .go ks ?_ | refine .go kf ?_ | refine .go cm ?_ | refine .ln hmg ?_ | refine .go ca ?_ | refine .go cb ?_ | refine .wn hk ?_ | refine .row ga ?_ | refine .go cr ?_ | refine .go ct ?_ | refine .go cu ?_ | refine .go cq ?_ | refine .wa fun v hv => ?_ | refine .ra fun v hv => ?_ | refine .qa fun v hv => ?_ | refine .len fun v hv => ?_ | refine .all True.intro fun v hv => ?_ | refine Lt.to (by decide) rfl ?_ | (refine .au fun vr vn hvr hvn hvl => ?_; try simp only [List.length_cons, List.length_nil] at hvl) | fail)
      all_goals (try cbv)
      all_goals first
        | (refine hQ _ ?_; exact ⟨rfl, rfl, rfl, rfl, rfl⟩)
        | (exfalso; omega)
    · obtain ⟨e3, e4⟩ := hqq (.inr e2)
      rw [if_pos e1] at hmany
      subst e1 e2 e3 e4 hmany
      clear hnext
      repeat' (cbv; first | refine .y ?_ | refine .n ?_ | refine .split (fun hc => ?_) fun hc => ?_ | refine EqQ.ints rfl (fun hc => ?_) fun hc => ?_ | refine .go ks ?_ | refine .go kf ?_ | refine .go cm ?_ | refine .ln hmg ?_ | refine .go ca ?_ | refine .go cb ?_ | refine .wn hk ?_ | refine .row ga ?_ | refine .go cr ?_ | refine .go ct ?_ | refine .go cu ?_ | refine .go cq ?_ | refine .wa fun v hv => ?_ | refine .ra fun v hv => ?_ | refine .qa fun v hv => ?_ | refine .len fun v hv => ?_ | refine .all True.intro fun v hv => ?_ | refine Lt.to (by decide) rfl ?_ | (refine .au fun vr vn hvr hvn hvl => ?_; try simp only [List.length_cons, List.length_nil] at hvl) | fail)
      all_goals (try cbv)
      all_goals first
        | (refine hQ _ ?_; exact ⟨rfl, rfl, rfl, rfl, rfl⟩)
        | (exfalso; omega)
    all_goals
      clear hqq cu cq ql
      first | rw [if_pos e1] at hmany | rw [if_neg (by omega)] at hmany
      subst e1 e2 hmany
      repeat' (cbv; first | refine .y ?_ | refine .n ?_ | refine .split (fun hc => ?_) fun hc => ?_ | refine EqQ.ints rfl (fun hc => ?_) fun hc => ?_ | refine .go ks ?_ | refine .go kf ?_ | refine .go cm ?_ | refine .ln hmg ?_ | refine .go ca ?_ | refine .go cb ?_ | refine .wn hk ?_ | refine .row ga ?_ | refine .go cr ?_ | refine .go ct ?_ | refine .wa fun v hv => ?_ | refine .ra fun v hv => ?_ | refine .qa fun v hv => ?_ | refine .len fun v hv => ?_ | refine .all True.intro fun v hv => ?_ | refine Lt.to (by decide) rfl ?_ | (refine .au fun vr vn hvr hvn hvl => ?_; try simp only [List.length_cons, List.length_nil] at hvl) | fail)
      all_goals (try cbv)
      all_goals first
        | (refine hQ _ ?_; exact ⟨rfl, rfl, rfl, rfl, rfl⟩)
        | (exfalso; omega)
  · clear hbm hs hbs fs
    obtain ⟨prog, gs, ps, ms, gl, c0, c1, c2, c3, w0, w1, w2, w3, ts, ck, pr⟩ := s
    obtain ⟨rp, rg, rq, rm, rl, r0, r1, r2, r3, rt, ⟨h_rp, s_rp, l_rp⟩, ⟨h_rg, s_rg, l_rg⟩, ⟨h_rq, s_rq, l_rq⟩, ⟨h_rm, s_rm, l_rm⟩, ⟨h_rl, s_rl, l_rl⟩, ⟨h_r0, s_r0, l_r0⟩, ⟨h_r1, s_r1, l_r1⟩, ⟨h_r2, s_r2, l_r2⟩, ⟨h_r3, s_r3, l_r3⟩, ⟨h_rt, s_rt, l_rt⟩, hst_⟩ := stR prog gs ps ms gl c0 c1 c2 c3 w0 w1 w2 w3 ts ck pr
    dsimp only at hin hgl
    rw [hst_] at ks cm ⊢
    refine callsV_q hD Try.func4 ok4 rfl rfl (by simp only [List.map_cons, List.map_nil, V.sh, V.shL, stL, s_rp, s_rg, s_rq, s_rm, s_rl, s_r0, s_r1, s_r2, s_r3, s_rt]) fun P Q hP hQ => ?_
    clear hst_
    obtain ⟨mg, hmg⟩ : ∃ n : Int, 0 ≤ n ∧ n.toNat = rg.length := ⟨rg.length, by omega, by omega⟩
    have hin' : ¬ (1 ≤ a ∧ a ≤ mg ∧ 1 ≤ b ∧ b ≤ mg) := by omega
    clear hin l_rg hgl h_rp h_rg h_rq h_rm h_rl h_r0 h_r1 h_r2 h_r3 h_rt l_rp l_rq l_rm l_rl l_r0 l_r1 l_r2 l_r3 l_rt
    try rw [← hP] at ks
    try rw [← hP] at kf
    try rw [← hP] at cm
    repeat' (cbv; first | refine .y ?_ | refine .n ?_ | refine .split (fun hc => ?_) fun hc => ?_ | refine EqQ.ints rfl (fun hc => ?_) fun hc => ?_ | refine .go ks ?_ | refine .go kf ?_ | refine .go cm ?_ | refine .ln hmg ?_ | refine .wa fun v hv => ?_ | refine .ra fun v hv => ?_ | refine .qa fun v hv => ?_ | refine .len fun v hv => ?_ | refine .all True.intro fun v hv => ?_ | refine Lt.to (by decide) rfl ?_ | (refine .au fun vr vn hvr hvn hvl => ?_; try simp only [List.length_cons, List.length_nil] at hvl) | fail)
    all_goals (try cbv)
    all_goals first
      | (refine hQ _ ?_; exact ⟨rfl, rfl, rfl, rfl, rfl⟩)
      | (exfalso; omega)

set_option maxHeartbeats 16000000 in
theorem c5 (p : List (List ID)) (hp : p.length ≤ 140737488355328) (k : Int) : CallsV Try.prog 5 [.sl false 1 (p.map fC), .int .i64 k] (.bool true) [.undef, .undef] true := by
  obtain ⟨bp, hbp⟩ : ∃ b, b = smallPr p := ⟨_, rfl⟩
  have kp := c9 p hp bp hbp
  have kf := c10
  obtain ⟨ra, h_ra⟩ : ∃ r, r = p.map fC := ⟨_, rfl⟩
  have s_ra : V.shR ra = ra := by rw [h_ra]; exact shR_fC p
  have l_ra : ra.length = p.length := by simp [h_ra]
  rw [← h_ra] at kp ⊢
  cases bp with
  | false =>
    clear hbp
    refine callsV_q hD Try.func5 ok5 rfl rfl (by simp only [List.map_cons, List.map_nil, V.sh, V.shL, stL, s_ra]) fun P Q hP hQ => ?_
    try rw [← hP] at kp
    try rw [← hP] at kf
    repeat' (cbv; first | refine .y ?_ | refine .n ?_ | refine .split (fun hc => ?_) fun hc => ?_ | refine EqQ.ints rfl (fun hc => ?_) fun hc => ?_ | refine .go kp ?_ | refine .go kf ?_ | refine .wa fun v hv => ?_ | refine .ra fun v hv => ?_ | refine .qa fun v hv => ?_ | refine .len fun v hv => ?_ | refine .all True.intro fun v hv => ?_ | refine Lt.to (by decide) rfl ?_ | (refine .au fun vr vn hvr hvn hvl => ?_; try simp only [List.length_cons, List.length_nil] at hvl) | fail)
    all_goals (try cbv)
    (refine hQ _ ?_; exact ⟨rfl, rfl, rfl, rfl, rfl⟩)
  | true =>
  have hpl : p.length ≤ 1000000 ∧ ∀ f ∈ p, f.length ≤ 1000000 := by
    unfold smallPr at hbp
    have h := hbp.symm
    simp only [Bool.and_eq_true, List.all_eq_true, decide_eq_true_eq] at h
    exact ⟨by omega, fun f hf => by have := h.1 f hf; omega⟩
  have hl0 : (0 : Int) ≤ 0 ∧ (0 : Int).toNat = ([] : List (List V)).length := ⟨by omega, rfl⟩
  have hl1 : (0 : Int) ≤ 1 ∧ (1 : Int).toNat = ([[.int .i64 0, .int .i64 0, .int .i64 1, .int .i64 0, .int .i64 0]] : List (List V)).length := ⟨by omega, rfl⟩
  by_cases hn : mayP p = true ∧ 1 ≤ k ∧ k ≤ 8
  · obtain ⟨hm1, hp1⟩ := new_may hn.1 hn.2
    have ff := newS_fit hpl.1 hpl.2 k
    have n1 := q11 p hpl.1 hpl.2 k hn.1 hn.2
    have cm := c14 (newS p k) ff true hm1.symm
    have cl := c16 (newS p k) ff 1 (3, 0) hp1.symm
    have ei := ints_self [1] (by simp)
    unfold stC newS at n1 cm cl
    dsimp only at n1 cm cl
    rw [← h_ra] at n1 cm cl
    clear h_ra l_ra hpl hm1 hp1 ff hbp
    refine callsV_q hD Try.func5 ok5 rfl rfl (by simp only [List.map_cons, List.map_nil, V.sh, V.shL, stL, s_ra]) fun P Q hP hQ => ?_
    try rw [← hP] at kp
    try rw [← hP] at kf
    try rw [← hP] at n1
    try rw [← hP] at cm
    try rw [← hP] at cl
    try rw [← hP] at ei
    repeat' (cbv; first | refine .y ?_ | refine .n ?_ | refine .split (fun hc => ?_) fun hc => ?_ | refine EqQ.ints rfl (fun hc => ?_) fun hc => ?_ | refine .go kp ?_ | refine .go kf ?_ | refine .go n1 ?_ | refine .go cm ?_ | refine .go cl ?_ | refine .go ei ?_ | refine .ln hl0 ?_ | refine .ln hl1 ?_ | refine .wa fun v hv => ?_ | refine .ra fun v hv => ?_ | refine .qa fun v hv => ?_ | refine .len fun v hv => ?_ | refine .all True.intro fun v hv => ?_ | refine Lt.to (by decide) rfl ?_ | (refine .au fun vr vn hvr hvn hvl => ?_; try simp only [List.length_cons, List.length_nil] at hvl) | fail)
    all_goals (try cbv)
    (refine hQ _ ?_; exact ⟨rfl, rfl, rfl, rfl, rfl⟩)
  · have n1 := c11f p hpl.1 hpl.2 k hn
    have e1 := c13 zeroS zeroS (by constructor <;> simp [zeroS]) true (by simp)
    obtain ⟨bm, hbm⟩ : ∃ b, b = mayP p := ⟨_, rfl⟩
    have cr := c24 p hpl.1 hpl.2 bm hbm
    rw [← hbm] at hn
    unfold zeroV at n1
    unfold stC zeroS at e1
    dsimp only at e1
    rw [← h_ra] at n1 cr
    clear h_ra l_ra hpl hbm hbp
    refine callsV_q hD Try.func5 ok5 rfl rfl (by simp only [List.map_cons, List.map_nil, V.sh, V.shL, stL, s_ra]) fun P Q hP hQ => ?_
    have hn' : bm = false ∨ ¬ (1 ≤ k ∧ k ≤ 8) := by
      cases bm
      · exact .inl rfl
      · exact .inr fun q => hn ⟨rfl, q⟩
    clear hn
    cases bm with
    | false =>
      clear hn'
      try rw [← hP] at kp
      try rw [← hP] at kf
      try rw [← hP] at n1
      try rw [← hP] at cr
      try rw [← hP] at e1
      repeat' (cbv; first | refine .y ?_ | refine .n ?_ | refine .split (fun hc => ?_) fun hc => ?_ | refine EqQ.ints rfl (fun hc => ?_) fun hc => ?_ | refine .go kp ?_ | refine .go kf ?_ | refine .go n1 ?_ | refine .go cr ?_ | (refine id (α := CallQ P _ _ _ _ _ _) ?_; first | refine CallQ.raw e1 rfl (.inl rfl) ?_) | refine .wa fun v hv => ?_ | refine .ra fun v hv => ?_ | refine .qa fun v hv => ?_ | refine .len fun v hv => ?_ | refine .all True.intro fun v hv => ?_ | refine Lt.to (by decide) rfl ?_ | (refine .au fun vr vn hvr hvn hvl => ?_; try simp only [List.length_cons, List.length_nil] at hvl) | fail)
      all_goals (try cbv)
      (refine hQ _ ?_; exact ⟨rfl, rfl, rfl, rfl, rfl⟩)
    | true =>
      have hn2 : ¬ (1 ≤ k ∧ k ≤ 8) := hn'.resolve_left (by simp)
      clear hn'
      try rw [← hP] at kp
      try rw [← hP] at kf
      try rw [← hP] at n1
      try rw [← hP] at cr
      try rw [← hP] at e1
      repeat' (cbv; first | refine .y ?_ | refine .n ?_ | refine .split (fun hc => ?_) fun hc => ?_ | refine EqQ.ints rfl (fun hc => ?_) fun hc => ?_ | refine .go kp ?_ | refine .go kf ?_ | refine .go n1 ?_ | refine .go cr ?_ | (refine id (α := CallQ P _ _ _ _ _ _) ?_; first | refine CallQ.raw e1 rfl (.inl rfl) ?_) | refine .wa fun v hv => ?_ | refine .ra fun v hv => ?_ | refine .qa fun v hv => ?_ | refine .len fun v hv => ?_ | refine .all True.intro fun v hv => ?_ | refine Lt.to (by decide) rfl ?_ | (refine .au fun vr vn hvr hvn hvl => ?_; try simp only [List.length_cons, List.length_nil] at hvl) | fail)
      all_goals (try cbv)
      all_goals first
        | (refine hQ _ ?_; exact ⟨rfl, rfl, rfl, rfl, rfl⟩)
        | (exfalso; omega)
end Go.Ab
