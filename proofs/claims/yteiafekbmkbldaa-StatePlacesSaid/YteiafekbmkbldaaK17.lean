/-
  The law StateTells.
-/
import Derived.Test.YteiafekbmkbldaaK15
import Derived.Test.YteiafekbmkbldaaK16
set_option linter.all false
namespace Go.Ab
open Go Go.Proofs
set_option maxRecDepth 100000

theorem ints_self (l : List Int) (hl : l.length ≤ 1000000) : CallsV Try.prog 18 [.sl false 1 (l.map iC), .sl false 1 (l.map iC)] (.bool true) [.undef, .undef] true := c18 l l (by omega) true (by simp)
theorem queue_len (s : SD) (p : Int) : (queueOf (s.ps.getD (p.toNat - 1) default)).length ≤ 1000000 := by
  generalize s.ps.getD (p.toNat - 1) default = x
  have := listR_len x.r
  unfold queueOf
  simp only [List.length_append]
  split <;> simp <;> omega
set_option maxHeartbeats 16000000 in
theorem c3 (s : SD) (hs : Held s) (p : List (List ID)) (hp : p.length ≤ 140737488355328) (g k : Int) :
    CallsV Try.prog 3 [.agg (stC s), .agg [.sl false 1 (p.map fC), .int .i64 g, .int .i64 k]] (.bool true) [.undef, .undef] true := by
  obtain ⟨bs, hbs⟩ : ∃ b, b = smallS s := ⟨_, rfl⟩
  obtain ⟨bp, hbp⟩ : ∃ b, b = smallPr p := ⟨_, rfl⟩
  have ks := c8 s hs bs hbs
  have kp := c9 p hp bp hbp
  have kf := c10
  obtain ⟨ra, h_ra⟩ : ∃ r, r = p.map fC := ⟨_, rfl⟩
  have s_ra : V.shR ra = ra := by rw [h_ra]; exact shR_fC p
  have l_ra : ra.length = p.length := by simp [h_ra]
  rw [← h_ra] at kp ⊢
  cases bs with
  | false =>
    clear hbs hs
    obtain ⟨prog, gs, ps, ms, gl, c0, c1, c2, c3, w0, w1, w2, w3, ts, ck, pr⟩ := s
    obtain ⟨rp, rg, rq, rm, rl, r0, r1, r2, r3, rt, ⟨h_rp, s_rp, l_rp⟩, ⟨h_rg, s_rg, l_rg⟩, ⟨h_rq, s_rq, l_rq⟩, ⟨h_rm, s_rm, l_rm⟩, ⟨h_rl, s_rl, l_rl⟩, ⟨h_r0, s_r0, l_r0⟩, ⟨h_r1, s_r1, l_r1⟩, ⟨h_r2, s_r2, l_r2⟩, ⟨h_r3, s_r3, l_r3⟩, ⟨h_rt, s_rt, l_rt⟩, hst_⟩ := stR prog gs ps ms gl c0 c1 c2 c3 w0 w1 w2 w3 ts ck pr
    rw [hst_] at ks ⊢
    refine callsV_q hD Try.func3 ok3 rfl rfl (by simp only [List.map_cons, List.map_nil, V.sh, V.shL, stL, s_rp, s_rg, s_rq, s_rm, s_rl, s_r0, s_r1, s_r2, s_r3, s_rt, s_ra]) fun P Q hP hQ => ?_
    clear hst_
    try rw [← hP] at ks
    try rw [← hP] at kf
    repeat' (cbv; first | refine .y ?_ | refine .n ?_ | refine .split (fun hc => ?_) fun hc => ?_ | refine EqQ.ints rfl (fun hc => ?_) fun hc => ?_ | refine .go ks ?_ | refine .go kf ?_ | refine .wa fun v hv => ?_ | refine .ra fun v hv => ?_ | refine .qa fun v hv => ?_ | refine .len fun v hv => ?_ | refine .all True.intro fun v hv => ?_ | refine Lt.to (by decide) rfl ?_ | (refine .au fun vr vn hvr hvn hvl => ?_; try simp only [List.length_cons, List.length_nil] at hvl) | fail)
    all_goals (try cbv)
    (refine hQ _ ?_; exact ⟨rfl, rfl, rfl, rfl, rfl⟩)
  | true =>
  cases bp with
  | false =>
    clear hbs hs
    obtain ⟨prog, gs, ps, ms, gl, c0, c1, c2, c3, w0, w1, w2, w3, ts, ck, pr⟩ := s
    obtain ⟨rp, rg, rq, rm, rl, r0, r1, r2, r3, rt, ⟨h_rp, s_rp, l_rp⟩, ⟨h_rg, s_rg, l_rg⟩, ⟨h_rq, s_rq, l_rq⟩, ⟨h_rm, s_rm, l_rm⟩, ⟨h_rl, s_rl, l_rl⟩, ⟨h_r0, s_r0, l_r0⟩, ⟨h_r1, s_r1, l_r1⟩, ⟨h_r2, s_r2, l_r2⟩, ⟨h_r3, s_r3, l_r3⟩, ⟨h_rt, s_rt, l_rt⟩, hst_⟩ := stR prog gs ps ms gl c0 c1 c2 c3 w0 w1 w2 w3 ts ck pr
    rw [hst_] at ks ⊢
    refine callsV_q hD Try.func3 ok3 rfl rfl (by simp only [List.map_cons, List.map_nil, V.sh, V.shL, stL, s_rp, s_rg, s_rq, s_rm, s_rl, s_r0, s_r1, s_r2, s_r3, s_rt, s_ra]) fun P Q hP hQ => ?_
    clear hst_
    try rw [← hP] at ks
    try rw [← hP] at kp
    try rw [← hP] at kf
    repeat' (cbv; first | refine .y ?_ | refine .n ?_ | refine .split (fun hc => ?_) fun hc => ?_ | refine EqQ.ints rfl (fun hc => ?_) fun hc => ?_ | refine .go ks ?_ | refine .go kp ?_ | refine .go kf ?_ | refine .wa fun v hv => ?_ | refine .ra fun v hv => ?_ | refine .qa fun v hv => ?_ | refine .len fun v hv => ?_ | refine .all True.intro fun v hv => ?_ | refine Lt.to (by decide) rfl ?_ | (refine .au fun vr vn hvr hvn hvl => ?_; try simp only [List.length_cons, List.length_nil] at hvl) | fail)
    all_goals (try cbv)
    (refine hQ _ ?_; exact ⟨rfl, rfl, rfl, rfl, rfl⟩)
  | true =>
  have fs := fit_small hbs.symm
  have hpl : p.length ≤ 1000000 ∧ ∀ f ∈ p, f.length ≤ 1000000 := by
    unfold smallPr at hbp
    have h := hbp.symm
    simp only [Bool.and_eq_true, List.all_eq_true, decide_eq_true_eq] at h
    exact ⟨by omega, fun f hf => by have := h.1 f hf; omega⟩
  obtain ⟨bm, hbm⟩ : ∃ b, b = mayS s := ⟨_, rfl⟩
  have cm := c14 s fs bm hbm
  have cr2 := c15 s fs bm hbm
  obtain ⟨z, hz⟩ : ∃ z, z = placeS s g := ⟨_, rfl⟩
  have cl := c16 s fs g z hz
  have rl' := c17 s fs g z hz
  have cu := c19 s fs k
  have ru := c20 s fs k
  have co := q21 s fs
  have e2 := c13 s s fs true (by simp)
  have ql := queue_len s k
  unfold queueV at cu ru
  rw [← hbm] at cu ru
  clear hz hbm hbs hbp hs
  obtain ⟨q, hq⟩ : ∃ q, q = queueOf (s.ps.getD (k.toNat - 1) default) := ⟨_, rfl⟩
  rw [← hq] at cu ru ql
  clear hq
  have ei := ints_self q ql
  have e0 := ints_self [] (by simp)
  obtain ⟨pr', hpr⟩ : ∃ x, x = s.pr := ⟨_, rfl⟩
  rw [← hpr] at cu ru
  clear hpr
  obtain ⟨rw, h_rw⟩ : ∃ r, r = q.map iC := ⟨_, rfl⟩
  have s_rw : V.shR rw = rw := by rw [h_rw]; exact shR_iC q
  have l_rw : rw.length = q.length := by simp [h_rw]
  rw [← h_rw] at cu ru ei
  obtain ⟨zk, zn⟩ := z
  unfold cpR at co
  obtain ⟨prog, gs, ps, ms, gl, c0, c1, c2, c3, w0, w1, w2, w3, ts, ck, pr⟩ := s
  obtain ⟨rp, rg, rq, rm, rl, r0, r1, r2, r3, rt, ⟨h_rp, s_rp, l_rp⟩, ⟨h_rg, s_rg, l_rg⟩, ⟨h_rq, s_rq, l_rq⟩, ⟨h_rm, s_rm, l_rm⟩, ⟨h_rl, s_rl, l_rl⟩, ⟨h_r0, s_r0, l_r0⟩, ⟨h_r1, s_r1, l_r1⟩, ⟨h_r2, s_r2, l_r2⟩, ⟨h_r3, s_r3, l_r3⟩, ⟨h_rt, s_rt, l_rt⟩, hst_⟩ := stR prog gs ps ms gl c0 c1 c2 c3 w0 w1 w2 w3 ts ck pr
  dsimp only at co
  rw [hst_] at ks cm cr2 cl rl' cu ru co e2 ⊢
  rw [← h_rp, ← h_rg, ← h_rq, ← h_rm, ← h_rl, ← h_r0, ← h_r1, ← h_r2, ← h_r3, ← h_rt] at co
  clear h_rp h_rg h_rq h_rm h_rl h_r0 h_r1 h_r2 h_r3 h_rt l_rp l_rg l_rq l_rm l_rl l_r0 l_r1 l_r2 l_r3 l_rt
  obtain ⟨w, hw⟩ : ∃ w : Bool, w = decide (¬ (1 ≤ k ∧ k ≤ pr') ∨ bm = false) := ⟨_, rfl⟩
  by_cases hn : mayP p = true ∧ 1 ≤ k ∧ k ≤ 8
  · have n1 := q11 p hpl.1 hpl.2 k hn.1 hn.2
    have n2 := q12 p hpl.1 hpl.2 k hn.1 hn.2
    have e1 := c13 (newS p k) (newS p k) (newS_fit hpl.1 hpl.2 k) true (by simp)
    unfold newR newS at n2
    unfold stC newS at n1 e1
    dsimp only at n1 n2 e1
    rw [← h_ra] at n1 n2 e1
    clear h_ra l_ra hpl hn
    refine callsV_q hD Try.func3 ok3 rfl rfl (by simp only [List.map_cons, List.map_nil, V.sh, V.shL, stL, s_rp, s_rg, s_rq, s_rm, s_rl, s_r0, s_r1, s_r2, s_r3, s_rt, s_ra]) fun P Q hP hQ => ?_
    clear hst_
    rw [← hP] at ks kp kf n1 n2 e1 cm cr2 cl rl' cu ru ei e0 co e2
    cases w with
    | true =>
      rw [if_pos (of_decide_eq_true hw.symm)] at cu ru
      clear hw ei
      cases bm
      all_goals
        repeat' (cbv; first | refine .y ?_ | refine .n ?_ | refine .split (fun hc => ?_) fun hc => ?_ | refine EqQ.ints rfl (fun hc => ?_) fun hc => ?_ | refine .go ks ?_ | refine .go kp ?_ | refine .go kf ?_ | refine .go n1 ?_ | refine .go n2 ?_ | refine .go e1 ?_ | refine .go cm ?_ | refine .go cr2 ?_ | refine .go cl ?_ | refine .go rl' ?_ | refine .go cu ?_ | refine .go ru ?_ | refine .go e0 ?_ | refine .go co ?_ | refine .go e2 ?_ | refine .wa fun v hv => ?_ | refine .ra fun v hv => ?_ | refine .qa fun v hv => ?_ | refine .len fun v hv => ?_ | refine .all True.intro fun v hv => ?_ | refine Lt.to (by decide) rfl ?_ | (refine .au fun vr vn hvr hvn hvl => ?_; try simp only [List.length_cons, List.length_nil] at hvl) | fail)
        all_goals (try cbv)
        all_goals first
          | (refine hQ _ ?_; exact ⟨rfl, rfl, rfl, rfl, rfl⟩)
          | (exact absurd ⟨rfl, rfl, True.intro⟩ hc)
    | false =>
      rw [if_neg (of_decide_eq_false hw.symm)] at cu ru
      have hb : bm = true := by
        cases bm with
        | true => rfl
        | false => exact absurd (.inr rfl) (of_decide_eq_false hw.symm)
      subst hb
      clear hw e0
      repeat' (cbv; first | refine .y ?_ | refine .n ?_ | refine .split (fun hc => ?_) fun hc => ?_ | refine EqQ.ints rfl (fun hc => ?_) fun hc => ?_ | refine .go ks ?_ | refine .go kp ?_ | refine .go kf ?_ | refine .go n1 ?_ | refine .go n2 ?_ | refine .go e1 ?_ | refine .go cm ?_ | refine .go cr2 ?_ | refine .go cl ?_ | refine .go rl' ?_ | refine .go cu ?_ | refine .go ru ?_ | refine .go ei ?_ | refine .go co ?_ | refine .go e2 ?_ | refine .wa fun v hv => ?_ | refine .ra fun v hv => ?_ | refine .qa fun v hv => ?_ | refine .len fun v hv => ?_ | refine .all True.intro fun v hv => ?_ | refine Lt.to (by decide) rfl ?_ | (refine .au fun vr vn hvr hvn hvl => ?_; try simp only [List.length_cons, List.length_nil] at hvl) | fail)
      all_goals (try cbv)
      all_goals first
        | (refine hQ _ ?_; exact ⟨rfl, rfl, rfl, rfl, rfl⟩)
        | (exact absurd ⟨rfl, rfl, True.intro⟩ hc)
  · have n1 := c11f p hpl.1 hpl.2 k hn
    have n2 := q12f p hpl.1 hpl.2 k hn
    have e1 := c13 zeroS zeroS (by constructor <;> simp [zeroS]) true (by simp)
    unfold zeroV at n1 n2
    unfold stC zeroS at e1
    dsimp only at e1
    rw [← h_ra] at n1 n2
    clear h_ra l_ra hpl hn
    refine callsV_q hD Try.func3 ok3 rfl rfl (by simp only [List.map_cons, List.map_nil, V.sh, V.shL, stL, s_rp, s_rg, s_rq, s_rm, s_rl, s_r0, s_r1, s_r2, s_r3, s_rt, s_ra]) fun P Q hP hQ => ?_
    clear hst_
    rw [← hP] at ks kp kf n1 n2 e1 cm cr2 cl rl' cu ru ei e0 co e2
    cases w with
    | true =>
      rw [if_pos (of_decide_eq_true hw.symm)] at cu ru
      clear hw ei
      cases bm
      all_goals
        repeat' (cbv; first | refine .y ?_ | refine .n ?_ | refine .split (fun hc => ?_) fun hc => ?_ | refine EqQ.ints rfl (fun hc => ?_) fun hc => ?_ | refine .go ks ?_ | refine .go kp ?_ | refine .go kf ?_ | refine .go n1 ?_ | refine .go n2 ?_ | refine .go e1 ?_ | refine .go cm ?_ | refine .go cr2 ?_ | refine .go cl ?_ | refine .go rl' ?_ | refine .go cu ?_ | refine .go ru ?_ | refine .go e0 ?_ | refine .go co ?_ | refine .go e2 ?_ | refine .wa fun v hv => ?_ | refine .ra fun v hv => ?_ | refine .qa fun v hv => ?_ | refine .len fun v hv => ?_ | refine .all True.intro fun v hv => ?_ | refine Lt.to (by decide) rfl ?_ | (refine .au fun vr vn hvr hvn hvl => ?_; try simp only [List.length_cons, List.length_nil] at hvl) | fail)
        all_goals (try cbv)
        all_goals first
          | (refine hQ _ ?_; exact ⟨rfl, rfl, rfl, rfl, rfl⟩)
          | (exact absurd ⟨rfl, rfl, True.intro⟩ hc)
    | false =>
      rw [if_neg (of_decide_eq_false hw.symm)] at cu ru
      have hb : bm = true := by
        cases bm with
        | true => rfl
        | false => exact absurd (.inr rfl) (of_decide_eq_false hw.symm)
      subst hb
      clear hw e0
      repeat' (cbv; first | refine .y ?_ | refine .n ?_ | refine .split (fun hc => ?_) fun hc => ?_ | refine EqQ.ints rfl (fun hc => ?_) fun hc => ?_ | refine .go ks ?_ | refine .go kp ?_ | refine .go kf ?_ | refine .go n1 ?_ | refine .go n2 ?_ | refine .go e1 ?_ | refine .go cm ?_ | refine .go cr2 ?_ | refine .go cl ?_ | refine .go rl' ?_ | refine .go cu ?_ | refine .go ru ?_ | refine .go ei ?_ | refine .go co ?_ | refine .go e2 ?_ | refine .wa fun v hv => ?_ | refine .ra fun v hv => ?_ | refine .qa fun v hv => ?_ | refine .len fun v hv => ?_ | refine .all True.intro fun v hv => ?_ | refine Lt.to (by decide) rfl ?_ | (refine .au fun vr vn hvr hvn hvl => ?_; try simp only [List.length_cons, List.length_nil] at hvl) | fail)
      all_goals (try cbv)
      all_goals first
        | (refine hQ _ ?_; exact ⟨rfl, rfl, rfl, rfl, rfl⟩)
        | (exact absurd ⟨rfl, rfl, True.intro⟩ hc)
end Go.Ab
