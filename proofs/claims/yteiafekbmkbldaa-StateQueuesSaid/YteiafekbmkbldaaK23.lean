/-
  The law StateQueues.
-/
import Derived.Test.YteiafekbmkbldaaK14
import Derived.Test.YteiafekbmkbldaaK16
import Derived.Test.YteiafekbmkbldaaK22
set_option linter.all false
namespace Go.Ab
open Go Go.Proofs
set_option maxRecDepth 100000

structure LqI where
  i : Int
  n : Int
theorem take_flat {l : List PD} {i : Nat} {x : PD} (h : l[i]? = some x) : ((l.take (i + 1)).flatMap queueOf).length = ((l.take i).flatMap queueOf).length + (queueOf x).length := by
  rw [take_succ_of h, List.flatMap_append, List.length_append]; simp
theorem take_count {l : List GD} {i : Nat} {x : GD} (h : l[i]? = some x) : (l.take (i + 1)).countP (fun x => decide (x.st = 1)) = (l.take i).countP (fun x => decide (x.st = 1)) + if x.st = 1 then 1 else 0 := by
  rw [take_succ_of h, List.countP_append]; simp [List.countP_cons]
theorem queue_short (p : PD) : (queueOf p).length ≤ 9 := by
  have := listR_len p.r
  unfold queueOf
  simp only [List.length_append]
  split <;> simp <;> omega
theorem flat_short : ∀ l : List PD, (l.flatMap queueOf).length ≤ l.length * 9
  | [] => by simp
  | p :: l => by
    have := queue_short p
    have := flat_short l
    rw [List.flatMap_cons, List.length_append, List.length_cons]; omega
set_option maxHeartbeats 32000000 in
theorem c7 (s : SD) (hs : Held s) : CallsV Try.prog 7 [.agg (stC s)] (.bool true) [.undef] true := by
  obtain ⟨bs, hbs⟩ : ∃ b, b = smallS s := ⟨_, rfl⟩
  have ks := c8 s hs bs hbs
  have kf := c10
  cases bs with
  | false =>
    clear hbs hs
    obtain ⟨prog, gs, ps, ms, gl, c0, c1, c2, c3, w0, w1, w2, w3, ts, ck, pr⟩ := s
    obtain ⟨rp, rg, rq, rm, rl, r0, r1, r2, r3, rt, ⟨h_rp, s_rp, l_rp⟩, ⟨h_rg, s_rg, l_rg⟩, ⟨h_rq, s_rq, l_rq⟩, ⟨h_rm, s_rm, l_rm⟩, ⟨h_rl, s_rl, l_rl⟩, ⟨h_r0, s_r0, l_r0⟩, ⟨h_r1, s_r1, l_r1⟩, ⟨h_r2, s_r2, l_r2⟩, ⟨h_r3, s_r3, l_r3⟩, ⟨h_rt, s_rt, l_rt⟩, hst_⟩ := stR prog gs ps ms gl c0 c1 c2 c3 w0 w1 w2 w3 ts ck pr
    rw [hst_] at ks ⊢
    refine callsV_q hD Try.func7 ok7 rfl rfl (by simp only [List.map_cons, List.map_nil, V.sh, V.shL, stL, s_rp, s_rg, s_rq, s_rm, s_rl, s_r0, s_r1, s_r2, s_r3, s_rt]) fun P Q hP hQ => ?_
    clear hst_
    try rw [← hP] at ks
    try rw [← hP] at kf
    repeat' (cbv; first | refine .y ?_ | refine .n ?_ | refine .split (fun hc => ?_) fun hc => ?_ | refine EqQ.ints rfl (fun hc => ?_) fun hc => ?_ | refine .go ks ?_ | refine .go kf ?_ | refine .wa fun v hv => ?_ | refine .ra fun v hv => ?_ | refine .qa fun v hv => ?_ | refine .len fun v hv => ?_ | refine .all True.intro fun v hv => ?_ | refine Lt.to (by decide) rfl ?_ | (refine .au fun vr vn hvr hvn hvl => ?_; try simp only [List.length_cons, List.length_nil] at hvl) | fail)
    all_goals (try cbv)
    (refine hQ _ ?_; exact ⟨rfl, rfl, rfl, rfl, rfl⟩)
  | true =>
  have fs := fit_small hbs.symm
  obtain ⟨bm, hbm⟩ : ∃ b, b = mayS s := ⟨_, rfl⟩
  have cm := c14 s fs bm hbm
  cases bm with
  | false =>
    clear hbs hs hbm fs
    obtain ⟨prog, gs, ps, ms, gl, c0, c1, c2, c3, w0, w1, w2, w3, ts, ck, pr⟩ := s
    obtain ⟨rp, rg, rq, rm, rl, r0, r1, r2, r3, rt, ⟨h_rp, s_rp, l_rp⟩, ⟨h_rg, s_rg, l_rg⟩, ⟨h_rq, s_rq, l_rq⟩, ⟨h_rm, s_rm, l_rm⟩, ⟨h_rl, s_rl, l_rl⟩, ⟨h_r0, s_r0, l_r0⟩, ⟨h_r1, s_r1, l_r1⟩, ⟨h_r2, s_r2, l_r2⟩, ⟨h_r3, s_r3, l_r3⟩, ⟨h_rt, s_rt, l_rt⟩, hst_⟩ := stR prog gs ps ms gl c0 c1 c2 c3 w0 w1 w2 w3 ts ck pr
    rw [hst_] at ks cm ⊢
    refine callsV_q hD Try.func7 ok7 rfl rfl (by simp only [List.map_cons, List.map_nil, V.sh, V.shL, stL, s_rp, s_rg, s_rq, s_rm, s_rl, s_r0, s_r1, s_r2, s_r3, s_rt]) fun P Q hP hQ => ?_
    clear hst_
    try rw [← hP] at ks
    try rw [← hP] at kf
    try rw [← hP] at cm
    repeat' (cbv; first | refine .y ?_ | refine .n ?_ | refine .split (fun hc => ?_) fun hc => ?_ | refine EqQ.ints rfl (fun hc => ?_) fun hc => ?_ | refine .go ks ?_ | refine .go kf ?_ | refine .go cm ?_ | refine .wa fun v hv => ?_ | refine .ra fun v hv => ?_ | refine .qa fun v hv => ?_ | refine .len fun v hv => ?_ | refine .all True.intro fun v hv => ?_ | refine Lt.to (by decide) rfl ?_ | (refine .au fun vr vn hvr hvn hvl => ?_; try simp only [List.length_cons, List.length_nil] at hvl) | fail)
    all_goals (try cbv)
    (refine hQ _ ?_; exact ⟨rfl, rfl, rfl, rfl, rfl⟩)
  | true =>
  have hl := len_of hbm.symm
  have hmany := run_many hbm.symm
  have hthere := queues_there hbm.symm
  have hgl := fs.gl
  have cu : ∀ (i : Int) (x : PD), 1 ≤ i → i ≤ s.pr → s.ps[(i - 1).toNat]? = some x → CallsV Try.prog 19 [.agg (stC s), .int .i64 i] (.sl true 1 ((queueOf x).map iC)) [.undef, .undef] true := fun i x h1 h2 hx => by
    have := c19 s fs i
    unfold queueV at this
    rw [if_neg (by rw [← hbm]; simp; omega), show i.toNat - 1 = (i - 1).toNat by omega, getD_of hx] at this
    exact this
  have ce : ∀ (i : Int), i = s.pr + 1 → CallsV Try.prog 19 [.agg (stC s), .int .i64 i] (.own 1 []) [.undef, .undef] true := fun i h => by
    have := c19 s fs i
    unfold queueV at this
    rwa [if_pos (by left; omega)] at this
  unfold runnables at hmany
  rw [List.length_append, hthere] at hmany
  clear hthere hbs hbm hs fs
  obtain ⟨prog, gs, ps, ms, gl, c0, c1, c2, c3, w0, w1, w2, w3, ts, ck, pr⟩ := s
  obtain ⟨rp, rg, rq, rm, rl, r0, r1, r2, r3, rt, ⟨h_rp, s_rp, l_rp⟩, ⟨h_rg, s_rg, l_rg⟩, ⟨h_rq, s_rq, l_rq⟩, ⟨h_rm, s_rm, l_rm⟩, ⟨h_rl, s_rl, l_rl⟩, ⟨h_r0, s_r0, l_r0⟩, ⟨h_r1, s_r1, l_r1⟩, ⟨h_r2, s_r2, l_r2⟩, ⟨h_r3, s_r3, l_r3⟩, ⟨h_rt, s_rt, l_rt⟩, hst_⟩ := stR prog gs ps ms gl c0 c1 c2 c3 w0 w1 w2 w3 ts ck pr
  dsimp only at hl hmany hgl cu ce
  simp only [hst_] at cu ce
  rw [hst_] at ks cm ⊢
  refine callsV_q hD Try.func7 ok7 rfl rfl (by simp only [List.map_cons, List.map_nil, V.sh, V.shL, stL, s_rp, s_rg, s_rq, s_rm, s_rl, s_r0, s_r1, s_r2, s_r3, s_rt]) fun P Q hP hQ => ?_
  clear hst_
  obtain ⟨mg, hmg⟩ : ∃ n : Int, 0 ≤ n ∧ n.toNat = rg.length := ⟨rg.length, by omega, by omega⟩
  obtain ⟨ml, hml⟩ : ∃ n : Int, 0 ≤ n ∧ n.toNat = rl.length := ⟨rl.length, by omega, by omega⟩
  obtain ⟨l1, l2, l3, l4, l5, l6⟩ := hl
  have hl0 : (0 : Int) ≤ 0 ∧ (0 : Int).toNat = ([] : List (List V)).length := ⟨by omega, rfl⟩
  clear h_rp h_rq h_rm h_rl h_r0 h_r1 h_r2 h_r3 h_rt l_rp l_rm l_r0 l_r1 l_r2 l_r3 l_rt
  try rw [← hP] at ks
  try rw [← hP] at kf
  try rw [← hP] at cm
  repeat' (cbv; first | refine .y ?_ | refine .n ?_ | refine .split (fun hc => ?_) fun hc => ?_ | refine EqQ.ints rfl (fun hc => ?_) fun hc => ?_ | refine .go ks ?_ | refine .go kf ?_ | refine .go cm ?_ | refine .ln hml ?_ | refine .wa fun v hv => ?_ | refine .ra fun v hv => ?_ | refine .qa fun v hv => ?_ | refine .len fun v hv => ?_ | refine .all True.intro fun v hv => ?_ | refine Lt.to (by decide) rfl ?_ | (refine .au fun vr vn hvr hvn hvl => ?_; try simp only [List.length_cons, List.length_nil] at hvl) | fail)
  all_goals (try cbv)
  refine LoopQ.to (ι := LqI) (fun p => ⟨tab .undef [(1, .ptr 100 0), (3, .int .i64 p.n), (4, .int .i64 0), (5, .int .i64 p.i)], tab .dead [(100, .box (stL rp rg rq rm rl c0 c1 c2 c3 r0 r1 r2 r3 rt ck pr))]⟩)
    (fun p => 1 ≤ p.i ∧ p.i ≤ pr + 1 ∧ p.n = ml + (((ps.take (p.i - 1).toNat).flatMap queueOf).length : Int)) (fun p => (pr + 1 - p.i).toNat) ⟨1, ml⟩ ⟨by simp, by dsimp only; omega, by simp⟩ rfl fun ⟨i, n⟩ ⟨i0, i1, hn⟩ A hA => ?_
  dsimp only at i0 i1 hn ⊢
  by_cases hc : i ≤ pr
  · obtain ⟨x, hx⟩ : ∃ x, ps[(i - 1).toNat]? = some x := ⟨_, List.getElem?_eq_getElem (by omega)⟩
    have cq := cu i x i0 hc hx
    have hq := queue_short x
    have hf := take_flat hx
    have hs := flat_short (ps.take (i - 1).toNat)
    have hlt : (ps.take (i - 1).toNat).length ≤ 8 := by rw [List.length_take]; omega
    obtain ⟨q, hqq⟩ : ∃ q, q = queueOf x := ⟨_, rfl⟩
    rw [← hqq] at cq hq hf
    clear hqq cu ce hmany
    obtain ⟨rw, h_rw⟩ : ∃ r, r = q.map iC := ⟨_, rfl⟩
    have s_rw : V.shR rw = rw := by rw [h_rw]; exact shR_iC q
    have l_rw : rw.length = q.length := by simp [h_rw]
    rw [← h_rw] at cq
    obtain ⟨mw, hmw⟩ : ∃ n : Int, 0 ≤ n ∧ n.toNat = rw.length := ⟨rw.length, by omega, by omega⟩
    obtain ⟨F, hF⟩ : ∃ F : Int, F = (((ps.take (i - 1).toNat).flatMap queueOf).length : Int) := ⟨_, rfl⟩
    obtain ⟨F', hF'⟩ : ∃ F : Int, F = (((ps.take ((i - 1).toNat + 1)).flatMap queueOf).length : Int) := ⟨_, rfl⟩
    rw [← hF] at hn
    have hFF : F' = F + mw := by omega
    have hFb : 0 ≤ F ∧ F ≤ 72 := by omega
    clear hF hx h_rw hf hs hlt
    obtain ⟨n', hn'⟩ : ∃ n', n' = n + mw := ⟨_, rfl⟩
    obtain ⟨i', hi'⟩ : ∃ i', i' = i + 1 := ⟨_, rfl⟩
    try rw [← hP] at cq
    repeat' (cbv; first | refine .y ?_ | refine .n ?_ | refine .split (fun hc => ?_) fun hc => ?_ | refine EqQ.ints rfl (fun hc => ?_) fun hc => ?_ | refine .go cq ?_ | refine .ln hmw ?_ | refine .wn hn' ?_ | refine .wn hi' ?_ | refine .wa fun v hv => ?_ | refine .ra fun v hv => ?_ | refine .qa fun v hv => ?_ | refine .len fun v hv => ?_ | refine .all True.intro fun v hv => ?_ | refine Lt.to (by decide) rfl ?_ | (refine .au fun vr vn hvr hvn hvl => ?_; try simp only [List.length_cons, List.length_nil] at hvl) | fail)
    all_goals (try cbv)
    exact hA ⟨i', n'⟩ _ ⟨by dsimp only; omega, by dsimp only; omega, by dsimp only; rw [show (i' - 1).toNat = (i - 1).toNat + 1 by omega, ← hF', hn', hn, hFF]; omega⟩ (by dsimp only; omega) rfl
  · have hi : i = pr + 1 := by omega
    rw [show (i - 1).toNat = pr.toNat by omega] at hn
    obtain ⟨T, hT⟩ : ∃ T : Int, T = ((gs.countP fun x => decide (x.st = 1) : Nat) : Int) := ⟨_, rfl⟩
    have hnT : n = T := by omega
    clear hn hmany cu hA
    repeat' (cbv; first | refine .y ?_ | refine .n ?_ | refine .split (fun hc => ?_) fun hc => ?_ | refine EqQ.ints rfl (fun hc => ?_) fun hc => ?_ | refine .ln hmg ?_ | refine .wa fun v hv => ?_ | refine .ra fun v hv => ?_ | refine .qa fun v hv => ?_ | refine .len fun v hv => ?_ | refine .all True.intro fun v hv => ?_ | refine Lt.to (by decide) rfl ?_ | (refine .au fun vr vn hvr hvn hvl => ?_; try simp only [List.length_cons, List.length_nil] at hvl) | fail)
    all_goals (try cbv)
    refine LoopQ.to (ι := LqI) (fun p => ⟨tab .undef [(1, .ptr 100 0), (3, .int .i64 n), (4, .int .i64 p.n), (6, .int .i64 p.i)], tab .dead [(100, .box (stL rp rg rq rm rl c0 c1 c2 c3 r0 r1 r2 r3 rt ck pr))]⟩)
      (fun p => 0 ≤ p.i ∧ p.i.toNat ≤ gs.length ∧ p.n = ((gs.take p.i.toNat).countP fun x => decide (x.st = 1) : Nat)) (fun p => gs.length - p.i.toNat) ⟨0, 0⟩ ⟨by simp, by simp, by simp⟩ rfl fun ⟨j, m⟩ ⟨j0, j1, hm⟩ B hB => ?_
    dsimp only at j0 j1 hm ⊢
    rcases drop_cases j1 with ⟨e, _⟩ | ⟨hlt, x, _, hx⟩
    · replace hm : m = (T : Int) := by rw [hm, hT, e, List.take_length]
      have hnm : n = m := by omega
      subst hnm
      have cq := ce (pr + 1) rfl
      obtain ⟨p1, hp1⟩ : ∃ p1, p1 = pr + 1 := ⟨_, rfl⟩
      rw [← hp1] at cq
      clear ce hT hm
      try rw [← hP] at cq
      repeat' (cbv; first | refine .y ?_ | refine .n ?_ | refine .split (fun hc => ?_) fun hc => ?_ | refine EqQ.ints rfl (fun hc => ?_) fun hc => ?_ | refine .ln hmg ?_ | refine .wn hp1 ?_ | refine .go cq ?_ | refine .ln hl0 ?_ | refine .wa fun v hv => ?_ | refine .ra fun v hv => ?_ | refine .qa fun v hv => ?_ | refine .len fun v hv => ?_ | refine .all True.intro fun v hv => ?_ | refine Lt.to (by decide) rfl ?_ | (refine .au fun vr vn hvr hvn hvl => ?_; try simp only [List.length_cons, List.length_nil] at hvl) | fail)
      all_goals (try cbv)
      all_goals first
        | (refine hQ _ ?_; exact ⟨rfl, rfl, rfl, rfl, rfl⟩)
        | (exfalso; omega)
    · have ga := getD_rows h_rg hx
      have ht := take_count hx
      have hCl : (gs.take j.toNat).countP (fun x => decide (x.st = 1)) ≤ j.toNat := Nat.le_trans List.countP_le_length (by simp; omega)
      obtain ⟨C', hC'⟩ : ∃ C : Int, C = (((gs.take (j.toNat + 1)).countP fun x => decide (x.st = 1) : Nat) : Int) := ⟨_, rfl⟩
      have hmb : 0 ≤ m ∧ m ≤ 1000 := by omega
      have hC1 : x.st = 1 → C' = m + 1 := fun q => by rw [hC', ht, if_pos q, hm]; simp
      have hC0 : x.st ≠ 1 → C' = m := fun q => by rw [hC', ht, if_neg q, hm]; simp
      clear hx ce hT
      obtain ⟨x0, x1, x2, x3, x4⟩ := x
      dsimp only at hC1 hC0
      clear ht hm
      obtain ⟨m', hm'⟩ : ∃ m', m' = m + 1 := ⟨_, rfl⟩
      obtain ⟨j', hj'⟩ : ∃ j', j' = j + 1 := ⟨_, rfl⟩
      have hjj : j'.toNat = j.toNat + 1 := by omega
      repeat' (cbv; first | refine .y ?_ | refine .n ?_ | refine .split (fun hc => ?_) fun hc => ?_ | refine EqQ.ints rfl (fun hc => ?_) fun hc => ?_ | refine .ln hmg ?_ | refine .row ga ?_ | refine .wn hm' ?_ | refine .wn hj' ?_ | refine .wa fun v hv => ?_ | refine .ra fun v hv => ?_ | refine .qa fun v hv => ?_ | refine .len fun v hv => ?_ | refine .all True.intro fun v hv => ?_ | refine Lt.to (by decide) rfl ?_ | (refine .au fun vr vn hvr hvn hvl => ?_; try simp only [List.length_cons, List.length_nil] at hvl) | fail)
      all_goals (try cbv)
      · exact hB ⟨j', m'⟩ _ ⟨by dsimp only; omega, by dsimp only; omega, by dsimp only; rw [hjj, ← hC', hC1 hc, hm']⟩ (by dsimp only; omega) rfl
      · exact hB ⟨j', m⟩ _ ⟨by dsimp only; omega, by dsimp only; omega, by dsimp only; rw [hjj, ← hC', hC0 hc]⟩ (by dsimp only; omega) rfl
end Go.Ab
