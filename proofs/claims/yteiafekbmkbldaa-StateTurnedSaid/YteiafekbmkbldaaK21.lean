/-
  The law StateTurned.
-/
import Derived.Test.YteiafekbmkbldaaK6
import Derived.Test.YteiafekbmkbldaaK14
import Derived.Test.YteiafekbmkbldaaK16
set_option linter.all false
namespace Go.Ab
open Go Go.Proofs
set_option maxRecDepth 100000

theorem AppL.is {n bytes : Nat} {rs ys v : List (List V)} {m : Nat} {K : List (List V) → Nat → Prop} (h1 : n = rs.length) (h2 : (rs.length + ys.length) * bytes ≤ 140737488355328) (hv : rs ++ ys = v) (hm : m = v.length) (k : K v m) : AppL n bytes (fun _ => rs) (fun _ => ys) K := by
  subst h1 hv hm
  exact ⟨⟨rfl, h2⟩, by rw [List.length_append] at k; exact k⟩
set_option maxHeartbeats 32000000 in
theorem c6 (s : SD) (hs : Held s) (j : Int) : CallsV Try.prog 6 [.agg (stC s), .int .i64 j] (.bool true) [.undef, .undef] true := by
  obtain ⟨bs, hbs⟩ : ∃ b, b = smallS s := ⟨_, rfl⟩
  have ks := c8 s hs bs hbs
  have kf := c10
  cases bs with
  | false =>
    clear hbs hs
    obtain ⟨prog, gs, ps, ms, gl, c0, c1, c2, c3, w0, w1, w2, w3, ts, ck, pr⟩ := s
    obtain ⟨rp, rg, rq, rm, rl, r0, r1, r2, r3, rt, ⟨h_rp, s_rp, l_rp⟩, ⟨h_rg, s_rg, l_rg⟩, ⟨h_rq, s_rq, l_rq⟩, ⟨h_rm, s_rm, l_rm⟩, ⟨h_rl, s_rl, l_rl⟩, ⟨h_r0, s_r0, l_r0⟩, ⟨h_r1, s_r1, l_r1⟩, ⟨h_r2, s_r2, l_r2⟩, ⟨h_r3, s_r3, l_r3⟩, ⟨h_rt, s_rt, l_rt⟩, hst_⟩ := stR prog gs ps ms gl c0 c1 c2 c3 w0 w1 w2 w3 ts ck pr
    rw [hst_] at ks ⊢
    refine callsV_q hD Try.func6 ok6x rfl rfl (by simp only [List.map_cons, List.map_nil, V.sh, V.shL, stL, s_rp, s_rg, s_rq, s_rm, s_rl, s_r0, s_r1, s_r2, s_r3, s_rt]) fun P Q hP hQ => ?_
    clear hst_
    try rw [← hP] at ks
    try rw [← hP] at kf
    repeat' (cbv; first | refine .y ?_ | refine .n ?_ | refine .split (fun hc => ?_) fun hc => ?_ | refine EqQ.ints rfl (fun hc => ?_) fun hc => ?_ | refine .go ks ?_ | refine .go kf ?_ | refine .wa fun v hv => ?_ | refine .ra fun v hv => ?_ | refine .qa fun v hv => ?_ | refine .len fun v hv => ?_ | refine .all True.intro fun v hv => ?_ | refine Lt.to (by decide) rfl ?_ | (refine .au fun vr vn hvr hvn hvl => ?_; try simp only [List.length_cons, List.length_nil] at hvl) | fail)
    all_goals (try cbv)
    (refine hQ _ ?_; exact ⟨rfl, rfl, rfl, rfl, rfl⟩)
  | true =>
  have fs := fit_small hbs.symm
  obtain ⟨bm, hbm⟩ : ∃ b, b = mayS s := ⟨_, rfl⟩
  have cm := c14 s fs bm hbm
  cases bm with
  | false =>
    clear hbs hs hbm fs
    obtain ⟨prog, gs, ps, ms, gl, c0, c1, c2, c3, w0, w1, w2, w3, ts, ck, pr⟩ := s
    obtain ⟨rp, rg, rq, rm, rl, r0, r1, r2, r3, rt, ⟨h_rp, s_rp, l_rp⟩, ⟨h_rg, s_rg, l_rg⟩, ⟨h_rq, s_rq, l_rq⟩, ⟨h_rm, s_rm, l_rm⟩, ⟨h_rl, s_rl, l_rl⟩, ⟨h_r0, s_r0, l_r0⟩, ⟨h_r1, s_r1, l_r1⟩, ⟨h_r2, s_r2, l_r2⟩, ⟨h_r3, s_r3, l_r3⟩, ⟨h_rt, s_rt, l_rt⟩, hst_⟩ := stR prog gs ps ms gl c0 c1 c2 c3 w0 w1 w2 w3 ts ck pr
    rw [hst_] at ks cm ⊢
    refine callsV_q hD Try.func6 ok6x rfl rfl (by simp only [List.map_cons, List.map_nil, V.sh, V.shL, stL, s_rp, s_rg, s_rq, s_rm, s_rl, s_r0, s_r1, s_r2, s_r3, s_rt]) fun P Q hP hQ => ?_
    clear hst_
    try rw [← hP] at ks
    try rw [← hP] at kf
    try rw [← hP] at cm
    repeat' (cbv; first | refine .y ?_ | refine .n ?_ | refine .split (fun hc => ?_) fun hc => ?_ | refine EqQ.ints rfl (fun hc => ?_) fun hc => ?_ | refine .go ks ?_ | refine .go kf ?_ | refine .go cm ?_ | refine .wa fun v hv => ?_ | refine .ra fun v hv => ?_ | refine .qa fun v hv => ?_ | refine .len fun v hv => ?_ | refine .all True.intro fun v hv => ?_ | refine Lt.to (by decide) rfl ?_ | (refine .au fun vr vn hvr hvn hvl => ?_; try simp only [List.length_cons, List.length_nil] at hvl) | fail)
    all_goals (try cbv)
    (refine hQ _ ?_; exact ⟨rfl, rfl, rfl, rfl, rfl⟩)
  | true =>
  have hgl := fs.gl
  by_cases hin : 0 ≤ j ∧ j.toNat < s.gl.length
  · obtain ⟨j0, j1⟩ := hin
    obtain ⟨g, hg⟩ : ∃ g, s.gl[j.toNat]? = some g := ⟨_, List.getElem?_eq_getElem j1⟩
    have ta := turned_a hbm.symm hg
    have tb := turned_b hbm.symm hg
    have hl := len_of hbm.symm
    obtain ⟨p, l, hps⟩ : ∃ p l, s.ps = p :: l := by
      cases h : s.ps with
      | nil => rw [h] at hl; simp at hl
      | cons p l => exact ⟨p, l, rfl⟩
    have tc := turned_c hps
    have ca := c14 _ (show Fit { s with gl := s.gl.take j.toNat ++ s.gl.drop (j.toNat + 1) } from { fs with gl := by simp; omega }) false ta.symm
    have cb := c14 _ (show Fit { s with gl := s.gl ++ [g] } from { fs with gl := by have := hbs.symm; unfold smallS at this; simp only [Bool.and_eq_true, decide_eq_true_eq] at this; simp; omega }) false tb.symm
    have cc := c14 _ (show Fit { s with ps := { p with m := s.ms.length + 1 } :: l } from { fs with ps := by have := fs.ps; rw [hps] at this; simpa using this }) false tc.symm
    have co := q25 s fs
    have hms := fs.ms
    clear ta tb tc hbm hs fs hbs
    obtain ⟨mm, hmm0⟩ : ∃ n : Int, n = s.ms.length := ⟨_, rfl⟩
    rw [← hmm0] at cc
    obtain ⟨k, hk⟩ : ∃ k : Int, k = mm + 1 := ⟨_, rfl⟩
    rw [← hk] at cc
    obtain ⟨j', hj'⟩ : ∃ k : Int, k = j + 1 := ⟨_, rfl⟩
    unfold stO at co
    unfold stC at ca cb cc
    obtain ⟨prog, gs, ps, ms, gl, c0, c1, c2, c3, w0, w1, w2, w3, ts, ck, pr⟩ := s
    obtain ⟨rp, rg, rq, rm, rl, r0, r1, r2, r3, rt, ⟨h_rp, s_rp, l_rp⟩, ⟨h_rg, s_rg, l_rg⟩, ⟨h_rq, s_rq, l_rq⟩, ⟨h_rm, s_rm, l_rm⟩, ⟨h_rl, s_rl, l_rl⟩, ⟨h_r0, s_r0, l_r0⟩, ⟨h_r1, s_r1, l_r1⟩, ⟨h_r2, s_r2, l_r2⟩, ⟨h_r3, s_r3, l_r3⟩, ⟨h_rt, s_rt, l_rt⟩, hst_⟩ := stR prog gs ps ms gl c0 c1 c2 c3 w0 w1 w2 w3 ts ck pr
    dsimp only at ca cb cc co hgl hl hps hg j1 hms hmm0
    rw [hst_] at ks cm co ⊢
    obtain ⟨la, hla⟩ : ∃ l, l = gl.take j.toNat ++ gl.drop (j.toNat + 1) := ⟨_, rfl⟩
    obtain ⟨lb, hlb⟩ : ∃ l, l = gl ++ [g] := ⟨_, rfl⟩
    obtain ⟨lc, hlc⟩ : ∃ l' : List PD, l' = { p with m := k } :: l := ⟨_, rfl⟩
    rw [← hla] at ca
    rw [← hlb] at cb
    rw [← hlc] at cc
    have hlcl : lc.length = ps.length := by rw [hlc, hps]; rfl
    obtain ⟨ra, h_ra⟩ : ∃ r, r = la.map iC := ⟨_, rfl⟩
    have s_ra : V.shR ra = ra := by rw [h_ra]; exact shR_iC la
    have l_ra : ra.length = la.length := by simp [h_ra]
    obtain ⟨rb, h_rb⟩ : ∃ r, r = lb.map iC := ⟨_, rfl⟩
    have s_rb : V.shR rb = rb := by rw [h_rb]; exact shR_iC lb
    have l_rb : rb.length = lb.length := by simp [h_rb]
    obtain ⟨rc, h_rc⟩ : ∃ r, r = lc.map pC := ⟨_, rfl⟩
    have s_rc : V.shR rc = rc := by rw [h_rc]; exact shR_pC lc
    have l_rc : rc.length = lc.length := by simp [h_rc]
    rw [← h_ra, ← h_rp, ← h_rg, ← h_rq, ← h_rm, ← h_r0, ← h_r1, ← h_r2, ← h_r3, ← h_rt] at ca
    rw [← h_rb, ← h_rp, ← h_rg, ← h_rq, ← h_rm, ← h_r0, ← h_r1, ← h_r2, ← h_r3, ← h_rt] at cb
    rw [← h_rc, ← h_rp, ← h_rg, ← h_rm, ← h_rl, ← h_r0, ← h_r1, ← h_r2, ← h_r3, ← h_rt] at cc
    rw [← h_rp, ← h_rg, ← h_rq, ← h_rm, ← h_rl, ← h_r0, ← h_r1, ← h_r2, ← h_r3, ← h_rt] at co
    obtain ⟨r1', h1'⟩ : ∃ r, r = rl.take j.toNat := ⟨_, rfl⟩
    obtain ⟨r2', h2'⟩ : ∃ r, r = rl.drop j'.toNat := ⟨_, rfl⟩
    have hra : r1' ++ r2' = ra := by rw [h1', h2', h_ra, hla, h_rl, show j'.toNat = j.toNat + 1 by omega]; simp
    have hrb : rl ++ [[.int .i64 g]] = rb := by rw [h_rb, hlb, h_rl]; simp [iC]
    have len1 : r1'.length ≤ rl.length := by rw [h1']; simp; omega
    have len2 : r2'.length ≤ rl.length := by rw [h2']; simp
    have hs1 : (rl.take j.toNat).drop (0 : Int).toNat = r1' := by rw [h1']; rfl
    have gl1 : rl.getD j.toNat [] = [.int .i64 g] := getD_rows h_rl hg
    have gq : rq.getD 0 [] = pC p := by rw [h_rq, hps]; rfl
    have hsq : rq.set 0 (pC { p with m := k }) = rc := by rw [h_rq, h_rc, hlc, hps]; rfl
    obtain ⟨p0, p1, ⟨p2, p3, p4, p5, p6, p7, p8, p9, p10, p11⟩, p12⟩ := p
    have hset : rq.set 0 (setR (rq.getD 0 []) 0 [.int .i64 k, .int .i64 p1, .int .i64 p2, .int .i64 p3, .int .i64 p4, .int .i64 p5, .int .i64 p6, .int .i64 p7, .int .i64 p8, .int .i64 p9, .int .i64 p10, .int .i64 p11, .int .i64 p12]) = rc := by
      rw [← hsq, show rq.getD 0 [] = _ from gq]; rfl
    obtain ⟨ml, hml⟩ : ∃ n : Int, 0 ≤ n ∧ n.toNat = rl.length := ⟨rl.length, by omega, by omega⟩
    have hmm : 0 ≤ mm ∧ mm.toNat = rm.length := by omega
    have lq : 0 < rq.length := by omega
    have jlt : 0 ≤ j ∧ j.toNat < rl.length := by omega
    refine callsV_q hD Try.func6 ok6x rfl rfl (by simp only [List.map_cons, List.map_nil, V.sh, V.shL, stL, s_rp, s_rg, s_rq, s_rm, s_rl, s_r0, s_r1, s_r2, s_r3, s_rt]) fun P Q hP hQ => ?_
    clear hst_ h_rp h_rg h_rq h_rm h_rl h_r0 h_r1 h_r2 h_r3 h_rt h_ra h_rb h_rc hps hg
    try rw [← hP] at ks
    try rw [← hP] at kf
    try rw [← hP] at cm
    try rw [← hP] at co
    repeat' (cbv; first | refine .y ?_ | refine .n ?_ | refine .split (fun hc => ?_) fun hc => ?_ | refine EqQ.ints rfl (fun hc => ?_) fun hc => ?_ | refine .go ks ?_ | refine .go kf ?_ | refine .go cm ?_ | refine .ln hml ?_ | refine .go co ?_ | refine .wa fun v hv => ?_ | refine .ra fun v hv => ?_ | refine .qa fun v hv => ?_ | refine .len fun v hv => ?_ | refine .all True.intro fun v hv => ?_ | refine Lt.to (by decide) rfl ?_ | (refine .au fun vr vn hvr hvn hvl => ?_; try simp only [List.length_cons, List.length_nil] at hvl) | fail)
    all_goals (try cbv)
    rw [← hP] at ca cb cc
    have hjle : j ≤ (rl.length : Int) := by omega
    have hjle' : j' ≤ (rl.length : Int) := by omega
    have hj0 : 0 ≤ j' := by omega
    obtain ⟨m1, hm1⟩ : ∃ m, m = r1'.length := ⟨_, rfl⟩
    obtain ⟨m2, hm2⟩ : ∃ m, m = ra.length := ⟨_, rfl⟩
    obtain ⟨m3, hm3⟩ : ∃ m, m = rb.length := ⟨_, rfl⟩
    have hb1 : (([] : List (List V)).length + r1'.length) * 8 ≤ 140737488355328 := by simp only [List.length_nil]; omega
    have hb2 : (r1'.length + r2'.length) * 8 ≤ 140737488355328 := by omega
    have hb3 : (rl.length + ([[.int .i64 g]] : List (List V)).length) * 8 ≤ 140737488355328 := by simp only [List.length_cons, List.length_nil]; omega
    have hq0 := lq
    rw [List.length.eq_def] at hq0
    have hrcl : rq.length = rc.length := by omega
    rw [List.length.eq_def rq] at hrcl
    clear hgl hl j1 l_rp l_rg l_rq l_rl l_r0 l_r1 l_r2 l_r3 l_rt l_ra l_rb l_rc h1' hsq hmm0 len1 len2 hlb hla hlc
    repeat' (cbv; first | refine .y ?_ | refine .n ?_ | refine .split (fun hc => ?_) fun hc => ?_ | refine EqQ.ints rfl (fun hc => ?_) fun hc => ?_ | refine Lt.to ⟨Int.le_refl 0, j0, hjle⟩ hs1 ?_ | refine AppL.is (rs := []) (ys := r1') rfl hb1 (List.nil_append r1') hm1 ?_ | refine .wn hj' ?_ | refine Lt.to ⟨hj0, hjle'⟩ (show rl.drop j'.toNat = r2' from h2'.symm) ?_ | refine AppL.is (rs := r1') (ys := r2') hm1 hb2 hra hm2 ?_ | refine Lt.to (⟨rfl, jlt.1, jlt.2⟩ : 1 = 1 ∧ 0 ≤ j ∧ j.toNat < rl.length) gl1 ?_ | refine AppL.is (rs := rl) (ys := [[.int .i64 g]]) (List.length.eq_def rl).symm hb3 hrb hm3 ?_ | refine Lt.to ⟨rfl, Int.le_refl 0, hq0⟩ (show 0 + (0 : Int).toNat = 0 from rfl) ?_ | refine Lt.to (Nat.le_refl 13) gq ?_ | refine .ln hmm ?_ | refine .wn hk ?_ | refine Lt.to ⟨rfl, Nat.le_refl 13⟩ hset ?_ | refine .go ca ?_ | (refine id (α := CallQ P _ _ _ _ _ _) ?_; first | refine CallQ.to cb rfl (.inr rfl) ?_ ⟨⟨rfl, (List.length.eq_def rp).symm, s_rp⟩, ⟨rfl, (List.length.eq_def rg).symm, s_rg⟩, ⟨rfl, (List.length.eq_def rq).symm, s_rq⟩, ⟨rfl, (List.length.eq_def rm).symm, s_rm⟩, ⟨rfl, hm3, s_rb⟩, s_r0, s_r1, s_r2, s_r3, s_rt, True.intro⟩ | refine CallQ.to cc rfl (.inr rfl) ?_ ⟨⟨rfl, (List.length.eq_def rp).symm, s_rp⟩, ⟨rfl, (List.length.eq_def rg).symm, s_rg⟩, ⟨rfl, hrcl, s_rc⟩, s_rm, s_rl, s_r0, s_r1, s_r2, s_r3, s_rt, True.intro⟩) | refine .wa fun v hv => ?_ | refine .ra fun v hv => ?_ | refine .qa fun v hv => ?_ | refine .len fun v hv => ?_ | refine .all True.intro fun v hv => ?_ | refine Lt.to (by decide) rfl ?_ | (refine .au fun vr vn hvr hvn hvl => ?_; try simp only [List.length_cons, List.length_nil] at hvl) | fail)
    all_goals (try cbv)
    (refine hQ _ ?_; exact ⟨rfl, rfl, rfl, rfl, rfl⟩)
  · clear hbm hs hbs fs
    obtain ⟨prog, gs, ps, ms, gl, c0, c1, c2, c3, w0, w1, w2, w3, ts, ck, pr⟩ := s
    obtain ⟨rp, rg, rq, rm, rl, r0, r1, r2, r3, rt, ⟨h_rp, s_rp, l_rp⟩, ⟨h_rg, s_rg, l_rg⟩, ⟨h_rq, s_rq, l_rq⟩, ⟨h_rm, s_rm, l_rm⟩, ⟨h_rl, s_rl, l_rl⟩, ⟨h_r0, s_r0, l_r0⟩, ⟨h_r1, s_r1, l_r1⟩, ⟨h_r2, s_r2, l_r2⟩, ⟨h_r3, s_r3, l_r3⟩, ⟨h_rt, s_rt, l_rt⟩, hst_⟩ := stR prog gs ps ms gl c0 c1 c2 c3 w0 w1 w2 w3 ts ck pr
    dsimp only at hin hgl
    rw [hst_] at ks cm ⊢
    refine callsV_q hD Try.func6 ok6x rfl rfl (by simp only [List.map_cons, List.map_nil, V.sh, V.shL, stL, s_rp, s_rg, s_rq, s_rm, s_rl, s_r0, s_r1, s_r2, s_r3, s_rt]) fun P Q hP hQ => ?_
    clear hst_
    obtain ⟨ml, hml⟩ : ∃ n : Int, 0 ≤ n ∧ n.toNat = rl.length := ⟨rl.length, by omega, by omega⟩
    have hin' : ¬ (0 ≤ j ∧ j < ml) := by omega
    clear hin hgl h_rp h_rg h_rq h_rm h_rl h_r0 h_r1 h_r2 h_r3 h_rt l_rp l_rg l_rq l_rm l_rl l_r0 l_r1 l_r2 l_r3 l_rt
    try rw [← hP] at ks
    try rw [← hP] at kf
    try rw [← hP] at cm
    repeat' (cbv; first | refine .y ?_ | refine .n ?_ | refine .split (fun hc => ?_) fun hc => ?_ | refine EqQ.ints rfl (fun hc => ?_) fun hc => ?_ | refine .go ks ?_ | refine .go kf ?_ | refine .go cm ?_ | refine .ln hml ?_ | refine .wa fun v hv => ?_ | refine .ra fun v hv => ?_ | refine .qa fun v hv => ?_ | refine .len fun v hv => ?_ | refine .all True.intro fun v hv => ?_ | refine Lt.to (by decide) rfl ?_ | (refine .au fun vr vn hvr hvn hvl => ?_; try simp only [List.length_cons, List.length_nil] at hvl) | fail)
    all_goals (try cbv)
    all_goals first
      | (refine hQ _ ?_; exact ⟨rfl, rfl, rfl, rfl, rfl⟩)
      | (exfalso; omega)
end Go.Ab
