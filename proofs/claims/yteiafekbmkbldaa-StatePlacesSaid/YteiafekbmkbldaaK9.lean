/-
  Do Ps and Ms have one another, as they say? does a G stand where its status says? the document's answers.
  Does a G stand where its status says? may a state be? the document's answers.
  May a state be? the document's answer.
  Where is a G? what is a P's queue? the document's answers.
  A map of places, as data: what it holds behind some puts.
-/
import Derived.Test.YteiafekbmkbldaaK8
set_option linter.all false
namespace Go.Ab
open Go Go.Proofs
set_option maxRecDepth 100000

def allI {α : Type} (f : Int → α → Bool) : Int → List α → Bool
  | _, [] => true
  | i, x :: l => f i x && allI f (i + 1) l
def okPp (s : SD) (i : Int) (p : PD) : Prop :=
  0 ≤ p.sq ∧ p.sq < 2305843009213693952 ∧ 0 ≤ p.m ∧ p.m ≤ s.ms.length ∧ (p.m = 0 ∨ (s.ms.getD (p.m.toNat - 1) ⟨0, 0⟩).p = i + 1) ∧ (i < s.pr ∨ (p.m = 0 ∧ p.nx = 0 ∧ p.r.n ≤ 0))
instance (s : SD) (i : Int) (p : PD) : Decidable (okPp s i p) := by unfold okPp; infer_instance
def okP (s : SD) (i : Int) (p : PD) : Bool := mayR p.r && decide (okPp s i p)
def okMp (s : SD) (i : Int) (m : MD) : Prop := 0 ≤ m.p ∧ m.p ≤ s.ps.length ∧ (m.p = 0 ∨ (s.ps.getD (m.p.toNat - 1) default).m = i + 1)
instance (s : SD) (i : Int) (m : MD) : Decidable (okMp s i m) := by unfold okMp; infer_instance
def holdsB (s : SD) : Bool := allI (okP s) 0 s.ps && allI (fun i m => decide (okMp s i m)) 0 s.ms

theorem getD_of {α : Type} {l : List α} {i : Nat} {x d : α} (h : l[i]? = some x) : l.getD i d = x := by
  rw [List.getD_eq_getElem?_getD, h]; rfl

set_option maxHeartbeats 8000000 in
theorem c37 (s : SD) (hq : s.ps.length ≤ 1000000) (hm : s.ms.length ≤ 1000000) (b : Bool) (hb : b = holdsB s) : CallsV Try.prog 37 [.agg (stC s)] (.bool b) [.undef] true := by
  obtain ⟨T, hT⟩ : ∃ T, T = allI (fun i m => decide (okMp s i m)) 0 s.ms := ⟨_, rfl⟩
  unfold holdsB at hb
  rw [← hT] at hb
  obtain ⟨s0, hs0⟩ : ∃ s0, s0 = s := ⟨_, rfl⟩
  rw [← hs0] at hT hb
  have e1 : s0.ps = s.ps := by rw [hs0]
  have e2 : s0.ms = s.ms := by rw [hs0]
  have e3 : s0.pr = s.pr := by rw [hs0]
  clear hs0
  obtain ⟨prog, gs, ps, ms, gl, c0, c1, c2, c3, w0, w1, w2, w3, ts, ck, pr⟩ := s
  obtain ⟨rp, rg, rq, rm, rl, r0, r1, r2, r3, rt, ⟨h_rp, s_rp, l_rp⟩, ⟨h_rg, s_rg, l_rg⟩, ⟨h_rq, s_rq, l_rq⟩, ⟨h_rm, s_rm, l_rm⟩, ⟨h_rl, s_rl, l_rl⟩, ⟨h_r0, s_r0, l_r0⟩, ⟨h_r1, s_r1, l_r1⟩, ⟨h_r2, s_r2, l_r2⟩, ⟨h_r3, s_r3, l_r3⟩, ⟨h_rt, s_rt, l_rt⟩, hst_⟩ := stR prog gs ps ms gl c0 c1 c2 c3 w0 w1 w2 w3 ts ck pr
  dsimp only at hq hm e1 e2 e3 ⊢
  rw [hst_]
  refine callsV_q hD Try.func37 ok37 rfl rfl (by simp only [List.map_cons, List.map_nil, V.sh, V.shL, stL, s_rp, s_rg, s_rq, s_rm, s_rl, s_r0, s_r1, s_r2, s_r3, s_rt]) fun P Q hP hQ => ?_
  clear hst_
  obtain ⟨nm, hnm⟩ : ∃ n : Int, 0 ≤ n ∧ n.toNat = ms.length := ⟨ms.length, by omega, by omega⟩
  obtain ⟨nq, hnq⟩ : ∃ n : Int, 0 ≤ n ∧ n.toNat = ps.length := ⟨ps.length, by omega, by omega⟩
  rw [e1] at hb
  rw [e2] at hT
  repeat' (cbv; first | refine .y ?_ | refine .n ?_ | refine .split (fun hc => ?_) fun hc => ?_ | refine EqQ.ints rfl (fun hc => ?_) fun hc => ?_ | refine .wa fun v hv => ?_ | refine .ra fun v hv => ?_ | refine .qa fun v hv => ?_ | refine .len fun v hv => ?_ | refine .all True.intro fun v hv => ?_ | refine Lt.to (by decide) rfl ?_ | (refine .au fun vr vn hvr hvn hvl => ?_; try simp only [List.length_cons, List.length_nil] at hvl) | fail)
  all_goals (try cbv)
  refine LoopQ.to (ι := Int) (fun i => ⟨tab .undef [(1, .ptr 100 0), (3, .int .i64 i)], tab .dead [(100, .box (stL rp rg rq rm rl c0 c1 c2 c3 r0 r1 r2 r3 rt ck pr))]⟩)
    (fun i => 0 ≤ i ∧ i.toNat ≤ ps.length ∧ b = (allI (okP s0) i (ps.drop i.toNat) && T)) (fun i => ps.length - i.toNat) 0 ⟨by omega, by omega, hb⟩ rfl fun i ⟨i0, i1, hi⟩ A hA => ?_
  rcases drop_cases i1 with ⟨e, hd⟩ | ⟨hlt, x, hd, hx⟩
  · rw [hd, allI, Bool.true_and, hT] at hi
    repeat' (cbv; first | refine .y ?_ | refine .n ?_ | refine .split (fun hc => ?_) fun hc => ?_ | refine EqQ.ints rfl (fun hc => ?_) fun hc => ?_ | refine .wa fun v hv => ?_ | refine .ra fun v hv => ?_ | refine .qa fun v hv => ?_ | refine .len fun v hv => ?_ | refine .all True.intro fun v hv => ?_ | refine Lt.to (by decide) rfl ?_ | (refine .au fun vr vn hvr hvn hvl => ?_; try simp only [List.length_cons, List.length_nil] at hvl) | fail)
    all_goals (try cbv)
    refine LoopQ.to (ι := Int) (fun i => ⟨tab .undef [(1, .ptr 100 0), (5, .int .i64 i)], tab .dead [(100, .box (stL rp rg rq rm rl c0 c1 c2 c3 r0 r1 r2 r3 rt ck pr))]⟩)
      (fun i => 0 ≤ i ∧ i.toNat ≤ ms.length ∧ b = allI (fun i m => decide (okMp s0 i m)) i (ms.drop i.toNat)) (fun i => ms.length - i.toNat) 0 ⟨by omega, by omega, hi⟩ rfl fun i ⟨i0, i1, hi⟩ A hA => ?_
    rcases drop_cases i1 with ⟨e, hd⟩ | ⟨hlt, x, hd, hx⟩
    · rw [hd] at hi
      repeat' (cbv; first | refine .y ?_ | refine .n ?_ | refine .split (fun hc => ?_) fun hc => ?_ | refine EqQ.ints rfl (fun hc => ?_) fun hc => ?_ | refine .wa fun v hv => ?_ | refine .ra fun v hv => ?_ | refine .qa fun v hv => ?_ | refine .len fun v hv => ?_ | refine .all True.intro fun v hv => ?_ | refine Lt.to (by decide) rfl ?_ | (refine .au fun vr vn hvr hvn hvl => ?_; try simp only [List.length_cons, List.length_nil] at hvl) | fail)
      all_goals (try cbv)
      have hbe : b = true := by rw [hi]; rfl
      subst hbe; refine hQ _ ?_; exact ⟨rfl, rfl, rfl, rfl, rfl⟩
    · rw [hd, allI] at hi
      have ga := getD_rows h_rm hx
      obtain ⟨xp, xg⟩ := x
      by_cases hr : 1 ≤ xp ∧ xp ≤ nq
      · obtain ⟨k, hk⟩ : ∃ k : Int, k = xp - 1 := ⟨_, rfl⟩
        obtain ⟨y, hy⟩ : ∃ y, ps[k.toNat]? = some y := ⟨_, List.getElem?_eq_getElem (by omega)⟩
        have gy := getD_rows h_rq hy
        have hok : okMp s0 i ⟨xp, xg⟩ = (0 ≤ xp ∧ xp ≤ nq ∧ (xp = 0 ∨ y.m = i + 1)) := by
          unfold okMp
          dsimp only
          rw [e1, show xp.toNat - 1 = k.toNat by omega, getD_of hy, show (ps.length : Int) = nq by omega]
        obtain ⟨y0, y1, ⟨y2, y3, y4, y5, y6, y7, y8, y9, y10, y11⟩, y12⟩ := y
        dsimp only at hok
        by_cases hgood : y0 = i + 1
        · rw [decide_eq_true (by rw [hok]; omega), Bool.true_and] at hi
          clear hok
          repeat' (cbv; first | refine .y ?_ | refine .n ?_ | refine .split (fun hc => ?_) fun hc => ?_ | refine EqQ.ints rfl (fun hc => ?_) fun hc => ?_ | refine .row ga ?_ | refine .wn hk ?_ | refine .row gy ?_ | refine .wa fun v hv => ?_ | refine .ra fun v hv => ?_ | refine .qa fun v hv => ?_ | refine .len fun v hv => ?_ | refine .all True.intro fun v hv => ?_ | refine Lt.to (by decide) rfl ?_ | (refine .au fun vr vn hvr hvn hvl => ?_; try simp only [List.length_cons, List.length_nil] at hvl) | fail)
          all_goals (try cbv)
          exact hA _ _ ⟨by omega, by omega, by rw [hi, show v.toNat = i.toNat + 1 by omega, hv]⟩ (by omega) rfl
        · rw [decide_eq_false (by rw [hok]; omega), Bool.false_and] at hi
          clear hok
          repeat' (cbv; first | refine .y ?_ | refine .n ?_ | refine .split (fun hc => ?_) fun hc => ?_ | refine EqQ.ints rfl (fun hc => ?_) fun hc => ?_ | refine .row ga ?_ | refine .wn hk ?_ | refine .row gy ?_ | refine .wa fun v hv => ?_ | refine .ra fun v hv => ?_ | refine .qa fun v hv => ?_ | refine .len fun v hv => ?_ | refine .all True.intro fun v hv => ?_ | refine Lt.to (by decide) rfl ?_ | (refine .au fun vr vn hvr hvn hvl => ?_; try simp only [List.length_cons, List.length_nil] at hvl) | fail)
          all_goals (try cbv)
          have hbe : b = false := by exact hi
          subst hbe; refine hQ _ ?_; exact ⟨rfl, rfl, rfl, rfl, rfl⟩
      · by_cases h0 : xp = 0
        · rw [decide_eq_true (by unfold okMp; dsimp only; omega), Bool.true_and] at hi
          repeat' (cbv; first | refine .y ?_ | refine .n ?_ | refine .split (fun hc => ?_) fun hc => ?_ | refine EqQ.ints rfl (fun hc => ?_) fun hc => ?_ | refine .row ga ?_ | refine .wa fun v hv => ?_ | refine .ra fun v hv => ?_ | refine .qa fun v hv => ?_ | refine .len fun v hv => ?_ | refine .all True.intro fun v hv => ?_ | refine Lt.to (by decide) rfl ?_ | (refine .au fun vr vn hvr hvn hvl => ?_; try simp only [List.length_cons, List.length_nil] at hvl) | fail)
          all_goals (try cbv)
          exact hA _ _ ⟨by omega, by omega, by rw [hi, show v.toNat = i.toNat + 1 by omega, hv]⟩ (by omega) rfl
        · rw [decide_eq_false (by unfold okMp; dsimp only; rw [e1]; omega), Bool.false_and] at hi
          repeat' (cbv; first | refine .y ?_ | refine .n ?_ | refine .split (fun hc => ?_) fun hc => ?_ | refine EqQ.ints rfl (fun hc => ?_) fun hc => ?_ | refine .row ga ?_ | refine .wa fun v hv => ?_ | refine .ra fun v hv => ?_ | refine .qa fun v hv => ?_ | refine .len fun v hv => ?_ | refine .all True.intro fun v hv => ?_ | refine Lt.to (by decide) rfl ?_ | (refine .au fun vr vn hvr hvn hvl => ?_; try simp only [List.length_cons, List.length_nil] at hvl) | fail)
          all_goals (try cbv)
          all_goals first
            | (have hbe : b = false := hi
               subst hbe; (refine hQ _ ?_; exact ⟨rfl, rfl, rfl, rfl, rfl⟩))
            | (exfalso; omega)
  · rw [hd, allI] at hi
    have ga := getD_rows h_rq hx
    obtain ⟨bm, hbm⟩ : ∃ bm, bm = mayR x.r := ⟨_, rfl⟩
    have cm := r_rMay x.r bm hbm
    obtain ⟨bl, hbl⟩ : ∃ bl, bl = decide (0 ≤ x.sq ∧ x.sq < 2305843009213693952) := ⟨_, rfl⟩
    have cl := c34 x.sq bl hbl
    unfold okP at hi
    rw [← hbm] at hi
    clear hbm
    obtain ⟨T2, hT2⟩ : ∃ T2, T2 = allI (fun i p => mayR p.r && decide (okPp s0 i p)) (i + 1) (ps.drop (i.toNat + 1)) := ⟨_, rfl⟩
    rw [← hT2] at hi
    obtain ⟨xm, xn, ⟨x2, x3, x4, x5, x6, x7, x8, x9, xh, xk⟩, xq⟩ := x
    dsimp only at cm cl hbl hi
    have hnext : b = (T2 && T) → ∀ v : Int, v = i + 1 → b = (allI (okP s0) v (ps.drop v.toNat) && T) := fun e v hv => by
      rw [e, hT2, hv, show (i + 1).toNat = i.toNat + 1 by omega]; rfl
    clear hT2
    cases bm with
    | false =>
      try rw [← hP] at cm
      repeat' (cbv; first | refine .y ?_ | refine .n ?_ | refine .split (fun hc => ?_) fun hc => ?_ | refine EqQ.ints rfl (fun hc => ?_) fun hc => ?_ | refine .row ga ?_ | refine .go cm ?_ | refine .wa fun v hv => ?_ | refine .ra fun v hv => ?_ | refine .qa fun v hv => ?_ | refine .len fun v hv => ?_ | refine .all True.intro fun v hv => ?_ | refine Lt.to (by decide) rfl ?_ | (refine .au fun vr vn hvr hvn hvl => ?_; try simp only [List.length_cons, List.length_nil] at hvl) | fail)
      all_goals (try cbv)
      have hbe : b = false := by rw [hi]; rfl
      subst hbe; refine hQ _ ?_; exact ⟨rfl, rfl, rfl, rfl, rfl⟩
    | true =>
    rw [Bool.true_and] at hi
    cases bl with
    | false =>
      have hbl' := hbl.symm
      simp only [decide_eq_false_iff_not] at hbl'
      rw [decide_eq_false (by unfold okPp; dsimp only; omega), Bool.false_and, Bool.false_and] at hi
      try rw [← hP] at cm
      try rw [← hP] at cl
      repeat' (cbv; first | refine .y ?_ | refine .n ?_ | refine .split (fun hc => ?_) fun hc => ?_ | refine EqQ.ints rfl (fun hc => ?_) fun hc => ?_ | refine .row ga ?_ | refine .go cm ?_ | refine .go cl ?_ | refine .wa fun v hv => ?_ | refine .ra fun v hv => ?_ | refine .qa fun v hv => ?_ | refine .len fun v hv => ?_ | refine .all True.intro fun v hv => ?_ | refine Lt.to (by decide) rfl ?_ | (refine .au fun vr vn hvr hvn hvl => ?_; try simp only [List.length_cons, List.length_nil] at hvl) | fail)
      all_goals (try cbv)
      have hbe : b = false := by exact hi
      subst hbe; refine hQ _ ?_; exact ⟨rfl, rfl, rfl, rfl, rfl⟩
    | true =>
    have hbl' := hbl.symm
    simp only [decide_eq_true_eq] at hbl'
    by_cases hr : 1 ≤ xm ∧ xm ≤ nm
    · obtain ⟨k, hk⟩ : ∃ k : Int, k = xm - 1 := ⟨_, rfl⟩
      obtain ⟨y, hy⟩ : ∃ y, ms[k.toNat]? = some y := ⟨_, List.getElem?_eq_getElem (by omega)⟩
      have gy := getD_rows h_rm hy
      obtain ⟨y0, y1⟩ := y
      have hok : okPp s0 i ⟨xm, xn, ⟨x2, x3, x4, x5, x6, x7, x8, x9, xh, xk⟩, xq⟩ = (0 ≤ xq ∧ xq < 2305843009213693952 ∧ 0 ≤ xm ∧ xm ≤ nm ∧ (xm = 0 ∨ y0 = i + 1) ∧ (i < pr ∨ (xm = 0 ∧ xn = 0 ∧ xk ≤ 0))) := by
        unfold okPp
        dsimp only
        rw [e2, e3, show xm.toNat - 1 = k.toNat by omega, getD_of hy, show (ms.length : Int) = nm by omega]
      by_cases hgood : y0 = i + 1 ∧ i < pr
      · rw [decide_eq_true (by rw [hok]; omega), Bool.true_and] at hi
        clear hok
        try rw [← hP] at cm
        try rw [← hP] at cl
        repeat' (cbv; first | refine .y ?_ | refine .n ?_ | refine .split (fun hc => ?_) fun hc => ?_ | refine EqQ.ints rfl (fun hc => ?_) fun hc => ?_ | refine .row ga ?_ | refine .go cm ?_ | refine .go cl ?_ | refine .wn hk ?_ | refine .row gy ?_ | refine .wa fun v hv => ?_ | refine .ra fun v hv => ?_ | refine .qa fun v hv => ?_ | refine .len fun v hv => ?_ | refine .all True.intro fun v hv => ?_ | refine Lt.to (by decide) rfl ?_ | (refine .au fun vr vn hvr hvn hvl => ?_; try simp only [List.length_cons, List.length_nil] at hvl) | fail)
        all_goals (try cbv)
        exact hA _ _ ⟨by omega, by omega, hnext hi _ hv⟩ (by omega) rfl
      · rw [decide_eq_false (by rw [hok]; omega), Bool.false_and, Bool.false_and] at hi
        clear hok
        try rw [← hP] at cm
        try rw [← hP] at cl
        repeat' (cbv; first | refine .y ?_ | refine .n ?_ | refine .split (fun hc => ?_) fun hc => ?_ | refine EqQ.ints rfl (fun hc => ?_) fun hc => ?_ | refine .row ga ?_ | refine .go cm ?_ | refine .go cl ?_ | refine .wn hk ?_ | refine .row gy ?_ | refine .wa fun v hv => ?_ | refine .ra fun v hv => ?_ | refine .qa fun v hv => ?_ | refine .len fun v hv => ?_ | refine .all True.intro fun v hv => ?_ | refine Lt.to (by decide) rfl ?_ | (refine .au fun vr vn hvr hvn hvl => ?_; try simp only [List.length_cons, List.length_nil] at hvl) | fail)
        all_goals (try cbv)
        all_goals first
          | (have hbe : b = false := hi
             subst hbe; (refine hQ _ ?_; exact ⟨rfl, rfl, rfl, rfl, rfl⟩))
          | (exfalso; omega)
    · by_cases h0 : xm = 0 ∧ (i < pr ∨ (xn = 0 ∧ xk ≤ 0))
      · rw [decide_eq_true (by unfold okPp; dsimp only; rw [e3]; omega), Bool.true_and] at hi
        try rw [← hP] at cm
        try rw [← hP] at cl
        repeat' (cbv; first | refine .y ?_ | refine .n ?_ | refine .split (fun hc => ?_) fun hc => ?_ | refine EqQ.ints rfl (fun hc => ?_) fun hc => ?_ | refine .row ga ?_ | refine .go cm ?_ | refine .go cl ?_ | refine .wa fun v hv => ?_ | refine .ra fun v hv => ?_ | refine .qa fun v hv => ?_ | refine .len fun v hv => ?_ | refine .all True.intro fun v hv => ?_ | refine Lt.to (by decide) rfl ?_ | (refine .au fun vr vn hvr hvn hvl => ?_; try simp only [List.length_cons, List.length_nil] at hvl) | fail)
        all_goals (try cbv)
        all_goals first
          | (exfalso; omega)
          | exact hA _ _ ⟨by omega, by omega, hnext hi _ hv⟩ (by omega) rfl
      · rw [decide_eq_false (by unfold okPp; dsimp only; rw [e2, e3]; omega), Bool.false_and, Bool.false_and] at hi
        try rw [← hP] at cm
        try rw [← hP] at cl
        repeat' (cbv; first | refine .y ?_ | refine .n ?_ | refine .split (fun hc => ?_) fun hc => ?_ | refine EqQ.ints rfl (fun hc => ?_) fun hc => ?_ | refine .row ga ?_ | refine .go cm ?_ | refine .go cl ?_ | refine .wa fun v hv => ?_ | refine .ra fun v hv => ?_ | refine .qa fun v hv => ?_ | refine .len fun v hv => ?_ | refine .all True.intro fun v hv => ?_ | refine Lt.to (by decide) rfl ?_ | (refine .au fun vr vn hvr hvn hvl => ?_; try simp only [List.length_cons, List.length_nil] at hvl) | fail)
        all_goals (try cbv)
        all_goals first
          | (have hbe : b = false := hi
             subst hbe; (refine hQ _ ?_; exact ⟨rfl, rfl, rfl, rfl, rfl⟩))
          | (exfalso; omega)
end Go.Ab

namespace Go.Ab
open Go Go.Proofs
set_option maxRecDepth 100000

def standsB (s : SD) (n : Int) : Bool :=
  let g := s.gs.getD (n.toNat - 1) default
  decide (1 ≤ g.st ∧ g.st ≤ 5) && decide (timesL (runnables s) n = (if g.st = 1 then 1 else 0) ∧ timesL (onMs s true) n = (if g.st = 2 then 1 else 0) ∧ timesL (waiters s) n = (if g.st = 3 then 1 else 0) ∧ timesL (onMs s false) n = (if g.st = 4 then 1 else 0)) &&
    (if g.st ≠ 2 ∧ g.st ≠ 4 then decide (g.m = 0) else decide (1 ≤ g.m ∧ g.m ≤ s.ms.length ∧ (s.ms.getD (g.m.toNat - 1) ⟨0, 0⟩).g = n))

theorem flat_ms (s : SD) (w : Bool) : (onMs s w).length ≤ s.ms.length := by
  unfold onMs; rw [List.length_map]; exact List.length_filter_le _ _

set_option maxHeartbeats 8000000 in
theorem c41 (s : SD) (hs : Fit s) (n : Int) (n1 : 1 ≤ n) (n2 : n.toNat ≤ s.gs.length) (b : Bool) (hb : b = standsB s n) : CallsV Try.prog 41 [.agg (stC s), .int .i64 n] (.bool b) [.undef, .undef] true := by
  have lr : (runnables s).length ≤ 1000000000 := by
    have := flat_len s.ps; have := hs.ps; have := hs.gl
    unfold runnables; rw [List.length_append]; omega
  have lw : (waiters s).length ≤ 1000000000 := by
    have := hs.w0; have := hs.w1; have := hs.w2; have := hs.w3; have := hs.ts
    unfold waiters; simp only [List.length_append, List.length_map]; omega
  have lm := fun w => flat_ms s w
  have hms := hs.ms
  have hgs := hs.gs
  have cr := c23 s hs.ps hs.gl
  have cw := c39 s hs.w0 hs.w1 hs.w2 hs.w3 hs.ts
  have ct := c40 s hs.ms true
  have cf := c40 s hs.ms false
  obtain ⟨x, hx⟩ : ∃ x, s.gs[n.toNat - 1]? = some x := ⟨_, List.getElem?_eq_getElem (by omega)⟩
  unfold standsB at hb
  rw [getD_of hx] at hb
  obtain ⟨tr, htr⟩ : ∃ z, z = timesL (runnables s) n := ⟨_, rfl⟩
  obtain ⟨tw, htw⟩ : ∃ z, z = timesL (waiters s) n := ⟨_, rfl⟩
  obtain ⟨tt, htt⟩ : ∃ z, z = timesL (onMs s true) n := ⟨_, rfl⟩
  obtain ⟨tf, htf⟩ : ∃ z, z = timesL (onMs s false) n := ⟨_, rfl⟩
  have kr := c22 _ lr n tr htr
  have kw := c22 _ lw n tw htw
  have kt := c22 _ (by have := lm true; omega) n tt htt
  have kf := c22 _ (by have := lm false; omega) n tf htf
  rw [← htr, ← htw, ← htt, ← htf] at hb
  obtain ⟨qr, hqr⟩ : ∃ q, q = runnables s := ⟨_, rfl⟩
  obtain ⟨qw, hqw⟩ : ∃ q, q = waiters s := ⟨_, rfl⟩
  obtain ⟨qt, hqt⟩ : ∃ q, q = onMs s true := ⟨_, rfl⟩
  obtain ⟨qf, hqf⟩ : ∃ q, q = onMs s false := ⟨_, rfl⟩
  rw [← hqr] at cr kr
  rw [← hqw] at cw kw
  rw [← hqt] at ct kt
  rw [← hqf] at cf kf
  clear htr htw htt htf hqr hqw hqt hqf lr lw lm hs
  obtain ⟨ur, h_ur⟩ : ∃ r, r = qr.map iC := ⟨_, rfl⟩
  have s_ur : V.shR ur = ur := by rw [h_ur]; exact shR_iC qr
  have l_ur : ur.length = qr.length := by simp [h_ur]
  obtain ⟨uw, h_uw⟩ : ∃ r, r = qw.map iC := ⟨_, rfl⟩
  have s_uw : V.shR uw = uw := by rw [h_uw]; exact shR_iC qw
  have l_uw : uw.length = qw.length := by simp [h_uw]
  obtain ⟨ut, h_ut⟩ : ∃ r, r = qt.map iC := ⟨_, rfl⟩
  have s_ut : V.shR ut = ut := by rw [h_ut]; exact shR_iC qt
  have l_ut : ut.length = qt.length := by simp [h_ut]
  obtain ⟨uf, h_uf⟩ : ∃ r, r = qf.map iC := ⟨_, rfl⟩
  have s_uf : V.shR uf = uf := by rw [h_uf]; exact shR_iC qf
  have l_uf : uf.length = qf.length := by simp [h_uf]
  rw [← h_ur] at cr kr
  rw [← h_uw] at cw kw
  rw [← h_ut] at ct kt
  rw [← h_uf] at cf kf
  clear h_ur h_uw h_ut h_uf l_ur l_uw l_ut l_uf
  obtain ⟨prog, gs, ps, ms, gl, c0, c1, c2, c3, w0, w1, w2, w3, ts, ck, pr⟩ := s
  obtain ⟨rp, rg, rq, rm, rl, r0, r1, r2, r3, rt, ⟨h_rp, s_rp, l_rp⟩, ⟨h_rg, s_rg, l_rg⟩, ⟨h_rq, s_rq, l_rq⟩, ⟨h_rm, s_rm, l_rm⟩, ⟨h_rl, s_rl, l_rl⟩, ⟨h_r0, s_r0, l_r0⟩, ⟨h_r1, s_r1, l_r1⟩, ⟨h_r2, s_r2, l_r2⟩, ⟨h_r3, s_r3, l_r3⟩, ⟨h_rt, s_rt, l_rt⟩, hst_⟩ := stR prog gs ps ms gl c0 c1 c2 c3 w0 w1 w2 w3 ts ck pr
  dsimp only at n2 hms hgs cr cw ct cf hx hb
  rw [hst_] at cr cw ct cf ⊢
  refine callsV_q hD Try.func41 ok41 rfl rfl (by simp only [List.map_cons, List.map_nil, V.sh, V.shL, stL, s_rp, s_rg, s_rq, s_rm, s_rl, s_r0, s_r1, s_r2, s_r3, s_rt]) fun P Q hP hQ => ?_
  clear hst_ h_rp h_rq h_rl h_r0 h_r1 h_r2 h_r3 h_rt l_rp l_rq l_rl l_r0 l_r1 l_r2 l_r3 l_rt
  obtain ⟨k, hk⟩ : ∃ k : Int, k = n - 1 := ⟨_, rfl⟩
  have ga : rg.getD k.toNat [] = gC x := by rw [show k.toNat = n.toNat - 1 by omega]; exact getD_rows h_rg hx
  have hat : 5 = 5 ∧ 0 ≤ k ∧ k.toNat < rg.length := ⟨rfl, by omega, by omega⟩
  obtain ⟨nm, hnm⟩ : ∃ n : Int, 0 ≤ n ∧ n.toNat = ms.length := ⟨ms.length, by omega, by omega⟩
  obtain ⟨xf, xp, xs, xm, xq⟩ := x
  dsimp only at hb
  clear hx
  by_cases hst : xs < 1 ∨ 5 < xs
  · rw [decide_eq_false (p := 1 ≤ xs ∧ xs ≤ 5) (by omega), Bool.false_and, Bool.false_and] at hb
    try rw [← hP] at cr
    try rw [← hP] at cw
    try rw [← hP] at ct
    try rw [← hP] at cf
    try rw [← hP] at kr
    try rw [← hP] at kw
    try rw [← hP] at kt
    try rw [← hP] at kf
    repeat' (cbv; first | refine .y ?_ | refine .n ?_ | refine .split (fun hc => ?_) fun hc => ?_ | refine EqQ.ints rfl (fun hc => ?_) fun hc => ?_ | refine .wn hk ?_ | refine Lt.to hat ga ?_ | refine .go cr ?_ | refine .go cw ?_ | refine .go ct ?_ | refine .go cf ?_ | refine .go kr ?_ | refine .go kw ?_ | refine .go kt ?_ | refine .go kf ?_ | refine .wa fun v hv => ?_ | refine .ra fun v hv => ?_ | refine .qa fun v hv => ?_ | refine .len fun v hv => ?_ | refine .all True.intro fun v hv => ?_ | refine Lt.to (by decide) rfl ?_ | (refine .au fun vr vn hvr hvn hvl => ?_; try simp only [List.length_cons, List.length_nil] at hvl) | fail)
    all_goals (try cbv)
    all_goals
      have hbe : b = false := by exact hb
      subst hbe; refine hQ _ ?_; exact ⟨rfl, rfl, rfl, rfl, rfl⟩
  · rw [decide_eq_true (p := 1 ≤ xs ∧ xs ≤ 5) (by omega), Bool.true_and] at hb
    by_cases hm : 1 ≤ xm ∧ xm ≤ nm
    · obtain ⟨z, hz⟩ : ∃ z : Int, z = xm - 1 := ⟨_, rfl⟩
      obtain ⟨y, hy⟩ : ∃ y, ms[z.toNat]? = some y := ⟨_, List.getElem?_eq_getElem (by omega)⟩
      have gy := getD_rows h_rm hy
      have hat2 : 2 = 2 ∧ 0 ≤ z ∧ z.toNat < rm.length := ⟨rfl, by omega, by omega⟩
      rw [show xm.toNat - 1 = z.toNat by omega, getD_of hy] at hb
      obtain ⟨y0, y1⟩ := y
      have e5 : (1 ≤ xm ∧ xm ≤ (ms.length : Int) ∧ (⟨y0, y1⟩ : MD).g = n) = (y1 = n) := propext ⟨fun h => h.2.2, fun h => ⟨hm.1, by omega, h⟩⟩
      simp only [e5] at hb
      clear e5 hy h_rm h_rg
      rcases (show xs = 1 ∨ xs = 2 ∨ xs = 3 ∨ xs = 4 ∨ xs = 5 by omega) with e | e | e | e | e <;> subst e
      all_goals
        simp only [Int.reduceEq, if_true, if_false, ne_eq, not_true_eq_false, not_false_eq_true, and_true, and_false, and_self] at hb
        try rw [← hP] at cr
        try rw [← hP] at cw
        try rw [← hP] at ct
        try rw [← hP] at cf
        try rw [← hP] at kr
        try rw [← hP] at kw
        try rw [← hP] at kt
        try rw [← hP] at kf
        repeat' (cbv; first | refine .y ?_ | refine .n ?_ | refine .split (fun hc => ?_) fun hc => ?_ | refine EqQ.ints rfl (fun hc => ?_) fun hc => ?_ | refine .wn hz ?_ | refine Lt.to hat2 gy ?_ | refine .wn hk ?_ | refine Lt.to hat ga ?_ | refine Lt.wr' (v := 0) (by omega) (by omega) (by omega) ?_ | refine Lt.wr' (v := 1) (by omega) (by omega) (by omega) ?_ | refine Lt.wr' (v := 2) (by omega) (by omega) (by omega) ?_ | refine Lt.wr' (v := 3) (by omega) (by omega) (by omega) ?_ | refine Lt.wr' (v := 4) (by omega) (by omega) (by omega) ?_ | refine .go cr ?_ | refine .go cw ?_ | refine .go ct ?_ | refine .go cf ?_ | refine .go kr ?_ | refine .go kw ?_ | refine .go kt ?_ | refine .go kf ?_ | refine .wa fun v hv => ?_ | refine .ra fun v hv => ?_ | refine .qa fun v hv => ?_ | refine .len fun v hv => ?_ | refine .all True.intro fun v hv => ?_ | refine Lt.to (by decide) rfl ?_ | (refine .au fun vr vn hvr hvn hvl => ?_; try simp only [List.length_cons, List.length_nil] at hvl) | fail)
        all_goals (try cbv)
        all_goals first
          | (have hbe : b = true := by rw [hb]; simp only [Bool.and_eq_true, decide_eq_true_eq]; omega
             subst hbe; (refine hQ _ ?_; exact ⟨rfl, rfl, rfl, rfl, rfl⟩))
          | (have hbe : b = false := by rw [hb]; simp only [Bool.and_eq_false_iff, decide_eq_false_iff_not]; omega
             subst hbe; (refine hQ _ ?_; exact ⟨rfl, rfl, rfl, rfl, rfl⟩))
    · have e5 : ∀ q, (1 ≤ xm ∧ xm ≤ (ms.length : Int) ∧ q = n) = False := fun q => propext ⟨fun h => hm ⟨h.1, by omega⟩, False.elim⟩
      simp only [e5] at hb
      clear e5 h_rm h_rg
      rcases (show xs = 1 ∨ xs = 2 ∨ xs = 3 ∨ xs = 4 ∨ xs = 5 by omega) with e | e | e | e | e <;> subst e
      all_goals
        simp only [Int.reduceEq, if_true, if_false, ne_eq, not_true_eq_false, not_false_eq_true, and_true, and_false, and_self, decide_false, Bool.and_false] at hb
        try rw [← hP] at cr
        try rw [← hP] at cw
        try rw [← hP] at ct
        try rw [← hP] at cf
        try rw [← hP] at kr
        try rw [← hP] at kw
        try rw [← hP] at kt
        try rw [← hP] at kf
        repeat' (cbv; first | refine .y ?_ | refine .n ?_ | refine .split (fun hc => ?_) fun hc => ?_ | refine EqQ.ints rfl (fun hc => ?_) fun hc => ?_ | refine .wn hk ?_ | refine Lt.to hat ga ?_ | refine Lt.wr' (v := 0) (by omega) (by omega) (by omega) ?_ | refine Lt.wr' (v := 1) (by omega) (by omega) (by omega) ?_ | refine Lt.wr' (v := 2) (by omega) (by omega) (by omega) ?_ | refine Lt.wr' (v := 3) (by omega) (by omega) (by omega) ?_ | refine Lt.wr' (v := 4) (by omega) (by omega) (by omega) ?_ | refine .go cr ?_ | refine .go cw ?_ | refine .go ct ?_ | refine .go cf ?_ | refine .go kr ?_ | refine .go kw ?_ | refine .go kt ?_ | refine .go kf ?_ | refine .wa fun v hv => ?_ | refine .ra fun v hv => ?_ | refine .qa fun v hv => ?_ | refine .len fun v hv => ?_ | refine .all True.intro fun v hv => ?_ | refine Lt.to (by decide) rfl ?_ | (refine .au fun vr vn hvr hvn hvl => ?_; try simp only [List.length_cons, List.length_nil] at hvl) | fail)
        all_goals (try cbv)
        all_goals first
          | (have hbe : b = true := by rw [hb]; simp only [Bool.and_eq_true, decide_eq_true_eq]; omega
             subst hbe; (refine hQ _ ?_; exact ⟨rfl, rfl, rfl, rfl, rfl⟩))
          | (have hbe : b = false := by first | exact hb | (rw [hb]; simp only [Bool.and_eq_false_iff, decide_eq_false_iff_not]; omega)
             subst hbe; (refine hQ _ ?_; exact ⟨rfl, rfl, rfl, rfl, rfl⟩))
          | (exfalso; omega)
end Go.Ab

namespace Go.Ab
open Go Go.Proofs
set_option maxRecDepth 100000

def okCt (c : Int) (w : List Int) : Bool := decide (0 ≤ c ∧ c ≤ 1000000 ∧ (c ≤ 0 ∨ w.length = 0))
def inB (n : Int) (l : List Int) : Bool := l.all fun x => decide (1 ≤ x ∧ x ≤ n)
def mayS (s : SD) : Bool :=
  mayP s.prog && (decide (1 ≤ s.gs.length ∧ s.gs.length ≤ 1000 ∧ s.ps.length = 8 ∧ 1 ≤ s.pr ∧ s.pr ≤ 8 ∧ s.ms.length ≤ 1000) && (decide (0 ≤ s.ck ∧ s.ck < 2305843009213693952) && (mayT [] s.ts && (s.gs.all (okG s.prog) && (holdsB s &&
    (okCt s.c0 s.w0 && (okCt s.c1 s.w1 && (okCt s.c2 s.w2 && (okCt s.c3 s.w3 &&
      (inB s.gs.length (runnables s) && (inB s.gs.length (waiters s) && (inB s.gs.length (onMs s true) && (inB s.gs.length (onMs s false) &&
        (List.range s.gs.length).all fun j : Nat => standsB s (j + 1))))))))))))))

theorem Lt.lenIs {n : Nat} {K : Int → Prop} {k : Int} (h : 0 ≤ k ∧ k.toNat = n) (c : K k) : Lt (fun _ => True) (fun _ => (n : Int)) K := ⟨trivial, by
  have : (n : Int) = k := by omega
  rw [this]; exact c⟩
set_option maxHeartbeats 8000000 in
theorem c15 (s : SD) (hs : Fit s) (b : Bool) (hb : b = mayS s) : CallsV Try.prog 15 [.agg (stC s)] (.bool b) [.undef] true := by
  have lr : (runnables s).length ≤ 1000000000 := by
    have := flat_len s.ps; have := hs.ps; have := hs.gl
    unfold runnables; rw [List.length_append]; omega
  have lw : (waiters s).length ≤ 1000000000 := by
    have := hs.w0; have := hs.w1; have := hs.w2; have := hs.w3; have := hs.ts
    unfold waiters; simp only [List.length_append, List.length_map]; omega
  have lm := fun w => flat_ms s w
  have hms := hs.ms
  have hgs := hs.gs
  obtain ⟨n, hn0, hn⟩ : ∃ n : Int, 0 ≤ n ∧ n.toNat = s.gs.length := ⟨s.gs.length, by omega, by omega⟩
  have hnc : (s.gs.length : Int) = n := by omega
  obtain ⟨bp, hbp⟩ : ∃ z, z = mayP s.prog := ⟨_, rfl⟩
  obtain ⟨bl, hbl⟩ : ∃ z, z = decide (0 ≤ s.ck ∧ s.ck < 2305843009213693952) := ⟨_, rfl⟩
  obtain ⟨bt, hbt⟩ : ∃ z, z = mayT [] s.ts := ⟨_, rfl⟩
  obtain ⟨bg, hbg⟩ : ∃ z, z = s.gs.all (okG s.prog) := ⟨_, rfl⟩
  obtain ⟨bh, hbh⟩ : ∃ z, z = holdsB s := ⟨_, rfl⟩
  obtain ⟨i1, hi1⟩ : ∃ z, z = inB n (runnables s) := ⟨_, rfl⟩
  obtain ⟨i2, hi2⟩ : ∃ z, z = inB n (waiters s) := ⟨_, rfl⟩
  obtain ⟨i3, hi3⟩ : ∃ z, z = inB n (onMs s true) := ⟨_, rfl⟩
  obtain ⟨i4, hi4⟩ : ∃ z, z = inB n (onMs s false) := ⟨_, rfl⟩
  have cp := c24 s.prog hs.prog hs.code bp hbp
  have cl := c34 s.ck bl hbl
  have ct := c35 s.ts hs.ts bt hbt
  have cg := c36 s hs.prog hs.gs bg hbg
  have ch := c37 s hs.ps hs.ms bh hbh
  have cr := c23 s hs.ps hs.gl
  have cw := c39 s hs.w0 hs.w1 hs.w2 hs.w3 hs.ts
  have co := c40 s hs.ms true
  have cf := c40 s hs.ms false
  have kr := c38 _ lr n i1 hi1
  have kw := c38 _ lw n i2 hi2
  have ko := c38 _ (by have := lm true; omega) n i3 hi3
  have kf := c38 _ (by have := lm false; omega) n i4 hi4
  obtain ⟨S, hS⟩ : ∃ S : Int → Bool, S = standsB s := ⟨_, rfl⟩
  have cs : ∀ (i : Int), 1 ≤ i → i.toNat ≤ s.gs.length → ∀ b, b = S i → CallsV Try.prog 41 [.agg (stC s), .int .i64 i] (.bool b) [.undef, .undef] true := fun i h1 h2 b hb => c41 s hs i h1 h2 b (by rw [hb, hS])
  unfold mayS at hb
  rw [hnc, ← hbp, ← hbl, ← hbt, ← hbg, ← hbh, ← hi1, ← hi2, ← hi3, ← hi4, ← hS] at hb
  clear hbp hbl hbt hbg hbh hi1 hi2 hi3 hi4 hS
  obtain ⟨qr, hqr⟩ : ∃ q, q = runnables s := ⟨_, rfl⟩
  obtain ⟨qw, hqw⟩ : ∃ q, q = waiters s := ⟨_, rfl⟩
  obtain ⟨qt, hqt⟩ : ∃ q, q = onMs s true := ⟨_, rfl⟩
  obtain ⟨qf, hqf⟩ : ∃ q, q = onMs s false := ⟨_, rfl⟩
  rw [← hqr] at cr kr
  rw [← hqw] at cw kw
  rw [← hqt] at co ko
  rw [← hqf] at cf kf
  clear hqr hqw hqt hqf lr lw lm hs hnc
  obtain ⟨ur, h_ur⟩ : ∃ r, r = qr.map iC := ⟨_, rfl⟩
  have s_ur : V.shR ur = ur := by rw [h_ur]; exact shR_iC qr
  have l_ur : ur.length = qr.length := by simp [h_ur]
  obtain ⟨uw, h_uw⟩ : ∃ r, r = qw.map iC := ⟨_, rfl⟩
  have s_uw : V.shR uw = uw := by rw [h_uw]; exact shR_iC qw
  have l_uw : uw.length = qw.length := by simp [h_uw]
  obtain ⟨ut, h_ut⟩ : ∃ r, r = qt.map iC := ⟨_, rfl⟩
  have s_ut : V.shR ut = ut := by rw [h_ut]; exact shR_iC qt
  have l_ut : ut.length = qt.length := by simp [h_ut]
  obtain ⟨uf, h_uf⟩ : ∃ r, r = qf.map iC := ⟨_, rfl⟩
  have s_uf : V.shR uf = uf := by rw [h_uf]; exact shR_iC qf
  have l_uf : uf.length = qf.length := by simp [h_uf]
  rw [← h_ur] at cr kr
  rw [← h_uw] at cw kw
  rw [← h_ut] at co ko
  rw [← h_uf] at cf kf
  clear h_ur h_uw h_ut h_uf l_ur l_uw l_ut l_uf
  obtain ⟨prog, gs, ps, ms, gl, c0, c1, c2, c3, w0, w1, w2, w3, ts, ck, pr⟩ := s
  obtain ⟨rp, rg, rq, rm, rl, r0, r1, r2, r3, rt, ⟨h_rp, s_rp, l_rp⟩, ⟨h_rg, s_rg, l_rg⟩, ⟨h_rq, s_rq, l_rq⟩, ⟨h_rm, s_rm, l_rm⟩, ⟨h_rl, s_rl, l_rl⟩, ⟨h_r0, s_r0, l_r0⟩, ⟨h_r1, s_r1, l_r1⟩, ⟨h_r2, s_r2, l_r2⟩, ⟨h_r3, s_r3, l_r3⟩, ⟨h_rt, s_rt, l_rt⟩, hst_⟩ := stR prog gs ps ms gl c0 c1 c2 c3 w0 w1 w2 w3 ts ck pr
  dsimp only at hn hms hgs cp cl ct cg ch cr cw co cf cs hb
  rw [hst_] at cg ch cr cw co cf cs ⊢
  rw [← h_rp] at cp
  rw [← h_rt] at ct
  refine callsV_q hD Try.func15 ok15 rfl rfl (by simp only [List.map_cons, List.map_nil, V.sh, V.shL, stL, s_rp, s_rg, s_rq, s_rm, s_rl, s_r0, s_r1, s_r2, s_r3, s_rt]) fun P Q hP hQ => ?_
  clear hst_ h_rp h_rq h_rl h_r0 h_r1 h_r2 h_r3 h_rt h_rg h_rm l_rp l_rl l_rt
  by_cases hlin : 1 ≤ gs.length ∧ gs.length ≤ 1000 ∧ ps.length = 8 ∧ 1 ≤ pr ∧ pr ≤ 8 ∧ ms.length ≤ 1000
  · rw [decide_eq_true hlin, Bool.true_and] at hb
    cases bp with
    | false =>
      try rw [← hP] at cp
      repeat' (cbv; first | refine .y ?_ | refine .n ?_ | refine .split (fun hc => ?_) fun hc => ?_ | refine EqQ.ints rfl (fun hc => ?_) fun hc => ?_ | refine .go cp ?_ | refine .wa fun v hv => ?_ | refine .ra fun v hv => ?_ | refine .qa fun v hv => ?_ | refine .len fun v hv => ?_ | refine .all True.intro fun v hv => ?_ | refine Lt.to (by decide) rfl ?_ | (refine .au fun vr vn hvr hvn hvl => ?_; try simp only [List.length_cons, List.length_nil] at hvl) | fail)
      all_goals (try cbv)
      have hbe : b = false := by exact hb
      subst hbe; refine hQ _ ?_; exact ⟨rfl, rfl, rfl, rfl, rfl⟩
    | true =>
    cases bl with
    | false =>
      try rw [← hP] at cp
      try rw [← hP] at cl
      repeat' (cbv; first | refine .y ?_ | refine .n ?_ | refine .split (fun hc => ?_) fun hc => ?_ | refine EqQ.ints rfl (fun hc => ?_) fun hc => ?_ | refine .go cp ?_ | refine .go cl ?_ | refine .wa fun v hv => ?_ | refine .ra fun v hv => ?_ | refine .qa fun v hv => ?_ | refine .len fun v hv => ?_ | refine .all True.intro fun v hv => ?_ | refine Lt.to (by decide) rfl ?_ | (refine .au fun vr vn hvr hvn hvl => ?_; try simp only [List.length_cons, List.length_nil] at hvl) | fail)
      all_goals (try cbv)
      have hbe : b = false := by exact hb
      subst hbe; refine hQ _ ?_; exact ⟨rfl, rfl, rfl, rfl, rfl⟩
    | true =>
    cases bt with
    | false =>
      try rw [← hP] at cp
      try rw [← hP] at cl
      try rw [← hP] at ct
      repeat' (cbv; first | refine .y ?_ | refine .n ?_ | refine .split (fun hc => ?_) fun hc => ?_ | refine EqQ.ints rfl (fun hc => ?_) fun hc => ?_ | refine .go cp ?_ | refine .go cl ?_ | refine .go ct ?_ | refine .wa fun v hv => ?_ | refine .ra fun v hv => ?_ | refine .qa fun v hv => ?_ | refine .len fun v hv => ?_ | refine .all True.intro fun v hv => ?_ | refine Lt.to (by decide) rfl ?_ | (refine .au fun vr vn hvr hvn hvl => ?_; try simp only [List.length_cons, List.length_nil] at hvl) | fail)
      all_goals (try cbv)
      have hbe : b = false := by exact hb
      subst hbe; refine hQ _ ?_; exact ⟨rfl, rfl, rfl, rfl, rfl⟩
    | true =>
    cases bg with
    | false =>
      try rw [← hP] at cp
      try rw [← hP] at cl
      try rw [← hP] at ct
      try rw [← hP] at cg
      repeat' (cbv; first | refine .y ?_ | refine .n ?_ | refine .split (fun hc => ?_) fun hc => ?_ | refine EqQ.ints rfl (fun hc => ?_) fun hc => ?_ | refine .go cp ?_ | refine .go cl ?_ | refine .go ct ?_ | refine .go cg ?_ | refine .wa fun v hv => ?_ | refine .ra fun v hv => ?_ | refine .qa fun v hv => ?_ | refine .len fun v hv => ?_ | refine .all True.intro fun v hv => ?_ | refine Lt.to (by decide) rfl ?_ | (refine .au fun vr vn hvr hvn hvl => ?_; try simp only [List.length_cons, List.length_nil] at hvl) | fail)
      all_goals (try cbv)
      have hbe : b = false := by exact hb
      subst hbe; refine hQ _ ?_; exact ⟨rfl, rfl, rfl, rfl, rfl⟩
    | true =>
    cases bh with
    | false =>
      try rw [← hP] at cp
      try rw [← hP] at cl
      try rw [← hP] at ct
      try rw [← hP] at cg
      try rw [← hP] at ch
      repeat' (cbv; first | refine .y ?_ | refine .n ?_ | refine .split (fun hc => ?_) fun hc => ?_ | refine EqQ.ints rfl (fun hc => ?_) fun hc => ?_ | refine .go cp ?_ | refine .go cl ?_ | refine .go ct ?_ | refine .go cg ?_ | refine .go ch ?_ | refine .wa fun v hv => ?_ | refine .ra fun v hv => ?_ | refine .qa fun v hv => ?_ | refine .len fun v hv => ?_ | refine .all True.intro fun v hv => ?_ | refine Lt.to (by decide) rfl ?_ | (refine .au fun vr vn hvr hvn hvl => ?_; try simp only [List.length_cons, List.length_nil] at hvl) | fail)
      all_goals (try cbv)
      have hbe : b = false := by exact hb
      subst hbe; refine hQ _ ?_; exact ⟨rfl, rfl, rfl, rfl, rfl⟩
    | true =>
    simp only [Bool.true_and] at hb
    try rw [← hP] at cp
    try rw [← hP] at cl
    try rw [← hP] at ct
    try rw [← hP] at cg
    try rw [← hP] at ch
    repeat' (cbv; first | refine .y ?_ | refine .n ?_ | refine .split (fun hc => ?_) fun hc => ?_ | refine EqQ.ints rfl (fun hc => ?_) fun hc => ?_ | refine .go cp ?_ | refine .go cl ?_ | refine .go ct ?_ | refine .go cg ?_ | refine .go ch ?_ | refine .wa fun v hv => ?_ | refine .ra fun v hv => ?_ | refine .qa fun v hv => ?_ | refine .len fun v hv => ?_ | refine .all True.intro fun v hv => ?_ | refine Lt.to (by decide) rfl ?_ | (refine .au fun vr vn hvr hvn hvl => ?_; try simp only [List.length_cons, List.length_nil] at hvl) | fail)
    all_goals (try cbv)
    obtain ⟨T, hT⟩ : ∃ T, T = (i1 && (i2 && (i3 && (i4 && (List.range gs.length).all fun j : Nat => S (j + 1))))) := ⟨_, rfl⟩
    rw [← hT] at hb
    refine LoopQ.to (ι := Int) (fun i => ⟨tab .undef [(1, .ptr 100 0), (3, .int .i64 i)], tab .dead [(100, .box (stL rp rg rq rm rl c0 c1 c2 c3 r0 r1 r2 r3 rt ck pr))]⟩)
      (fun i => (i = 0 ∧ b = (okCt c0 w0 && (okCt c1 w1 && (okCt c2 w2 && (okCt c3 w3 && T))))) ∨ (i = 1 ∧ b = (okCt c1 w1 && (okCt c2 w2 && (okCt c3 w3 && T)))) ∨ (i = 2 ∧ b = (okCt c2 w2 && (okCt c3 w3 && T))) ∨ (i = 3 ∧ b = (okCt c3 w3 && T)) ∨ (i = 4 ∧ b = T))
      (fun i => (4 - i).toNat) 0 (.inl ⟨rfl, hb⟩) rfl fun i hi A hA => ?_
    clear hb
    rcases hi with ⟨rfl, hi⟩ | ⟨rfl, hi⟩ | ⟨rfl, hi⟩ | ⟨rfl, hi⟩ | ⟨rfl, hi⟩
    · clear hT cs
      by_cases hc0 : 0 ≤ c0 ∧ c0 ≤ 1000000 ∧ (c0 ≤ 0 ∨ w0.length = 0)
      · rw [show okCt c0 w0 = true from decide_eq_true hc0, Bool.true_and] at hi
        repeat' (cbv; first | refine .y ?_ | refine .n ?_ | refine .split (fun hc => ?_) fun hc => ?_ | refine EqQ.ints rfl (fun hc => ?_) fun hc => ?_ | refine .wa fun v hv => ?_ | refine .ra fun v hv => ?_ | refine .qa fun v hv => ?_ | refine .len fun v hv => ?_ | refine .all True.intro fun v hv => ?_ | refine Lt.to (by decide) rfl ?_ | (refine .au fun vr vn hvr hvn hvl => ?_; try simp only [List.length_cons, List.length_nil] at hvl) | fail)
        all_goals (try cbv)
        all_goals first
          | exact hA v _ (.inr (.inl ⟨hv, hi⟩)) (by omega) rfl
          | (exfalso; omega)
      · rw [show okCt c0 w0 = false from decide_eq_false hc0, Bool.false_and] at hi
        repeat' (cbv; first | refine .y ?_ | refine .n ?_ | refine .split (fun hc => ?_) fun hc => ?_ | refine EqQ.ints rfl (fun hc => ?_) fun hc => ?_ | refine .wa fun v hv => ?_ | refine .ra fun v hv => ?_ | refine .qa fun v hv => ?_ | refine .len fun v hv => ?_ | refine .all True.intro fun v hv => ?_ | refine Lt.to (by decide) rfl ?_ | (refine .au fun vr vn hvr hvn hvl => ?_; try simp only [List.length_cons, List.length_nil] at hvl) | fail)
        all_goals (try cbv)
        all_goals first
          | (have hbe : b = false := hi
             subst hbe; (refine hQ _ ?_; exact ⟨rfl, rfl, rfl, rfl, rfl⟩))
          | (exfalso; omega)
    · clear hT cs
      by_cases hc0 : 0 ≤ c1 ∧ c1 ≤ 1000000 ∧ (c1 ≤ 0 ∨ w1.length = 0)
      · rw [show okCt c1 w1 = true from decide_eq_true hc0, Bool.true_and] at hi
        repeat' (cbv; first | refine .y ?_ | refine .n ?_ | refine .split (fun hc => ?_) fun hc => ?_ | refine EqQ.ints rfl (fun hc => ?_) fun hc => ?_ | refine .wa fun v hv => ?_ | refine .ra fun v hv => ?_ | refine .qa fun v hv => ?_ | refine .len fun v hv => ?_ | refine .all True.intro fun v hv => ?_ | refine Lt.to (by decide) rfl ?_ | (refine .au fun vr vn hvr hvn hvl => ?_; try simp only [List.length_cons, List.length_nil] at hvl) | fail)
        all_goals (try cbv)
        all_goals first
          | exact hA v _ (.inr (.inr (.inl ⟨hv, hi⟩))) (by omega) rfl
          | (exfalso; omega)
      · rw [show okCt c1 w1 = false from decide_eq_false hc0, Bool.false_and] at hi
        repeat' (cbv; first | refine .y ?_ | refine .n ?_ | refine .split (fun hc => ?_) fun hc => ?_ | refine EqQ.ints rfl (fun hc => ?_) fun hc => ?_ | refine .wa fun v hv => ?_ | refine .ra fun v hv => ?_ | refine .qa fun v hv => ?_ | refine .len fun v hv => ?_ | refine .all True.intro fun v hv => ?_ | refine Lt.to (by decide) rfl ?_ | (refine .au fun vr vn hvr hvn hvl => ?_; try simp only [List.length_cons, List.length_nil] at hvl) | fail)
        all_goals (try cbv)
        all_goals first
          | (have hbe : b = false := hi
             subst hbe; (refine hQ _ ?_; exact ⟨rfl, rfl, rfl, rfl, rfl⟩))
          | (exfalso; omega)
    · clear hT cs
      by_cases hc0 : 0 ≤ c2 ∧ c2 ≤ 1000000 ∧ (c2 ≤ 0 ∨ w2.length = 0)
      · rw [show okCt c2 w2 = true from decide_eq_true hc0, Bool.true_and] at hi
        repeat' (cbv; first | refine .y ?_ | refine .n ?_ | refine .split (fun hc => ?_) fun hc => ?_ | refine EqQ.ints rfl (fun hc => ?_) fun hc => ?_ | refine .wa fun v hv => ?_ | refine .ra fun v hv => ?_ | refine .qa fun v hv => ?_ | refine .len fun v hv => ?_ | refine .all True.intro fun v hv => ?_ | refine Lt.to (by decide) rfl ?_ | (refine .au fun vr vn hvr hvn hvl => ?_; try simp only [List.length_cons, List.length_nil] at hvl) | fail)
        all_goals (try cbv)
        all_goals first
          | exact hA v _ (.inr (.inr (.inr (.inl ⟨hv, hi⟩)))) (by omega) rfl
          | (exfalso; omega)
      · rw [show okCt c2 w2 = false from decide_eq_false hc0, Bool.false_and] at hi
        repeat' (cbv; first | refine .y ?_ | refine .n ?_ | refine .split (fun hc => ?_) fun hc => ?_ | refine EqQ.ints rfl (fun hc => ?_) fun hc => ?_ | refine .wa fun v hv => ?_ | refine .ra fun v hv => ?_ | refine .qa fun v hv => ?_ | refine .len fun v hv => ?_ | refine .all True.intro fun v hv => ?_ | refine Lt.to (by decide) rfl ?_ | (refine .au fun vr vn hvr hvn hvl => ?_; try simp only [List.length_cons, List.length_nil] at hvl) | fail)
        all_goals (try cbv)
        all_goals first
          | (have hbe : b = false := hi
             subst hbe; (refine hQ _ ?_; exact ⟨rfl, rfl, rfl, rfl, rfl⟩))
          | (exfalso; omega)
    · clear hT cs
      by_cases hc0 : 0 ≤ c3 ∧ c3 ≤ 1000000 ∧ (c3 ≤ 0 ∨ w3.length = 0)
      · rw [show okCt c3 w3 = true from decide_eq_true hc0, Bool.true_and] at hi
        repeat' (cbv; first | refine .y ?_ | refine .n ?_ | refine .split (fun hc => ?_) fun hc => ?_ | refine EqQ.ints rfl (fun hc => ?_) fun hc => ?_ | refine .wa fun v hv => ?_ | refine .ra fun v hv => ?_ | refine .qa fun v hv => ?_ | refine .len fun v hv => ?_ | refine .all True.intro fun v hv => ?_ | refine Lt.to (by decide) rfl ?_ | (refine .au fun vr vn hvr hvn hvl => ?_; try simp only [List.length_cons, List.length_nil] at hvl) | fail)
        all_goals (try cbv)
        all_goals first
          | exact hA v _ (.inr (.inr (.inr (.inr ⟨hv, hi⟩)))) (by omega) rfl
          | (exfalso; omega)
      · rw [show okCt c3 w3 = false from decide_eq_false hc0, Bool.false_and] at hi
        repeat' (cbv; first | refine .y ?_ | refine .n ?_ | refine .split (fun hc => ?_) fun hc => ?_ | refine EqQ.ints rfl (fun hc => ?_) fun hc => ?_ | refine .wa fun v hv => ?_ | refine .ra fun v hv => ?_ | refine .qa fun v hv => ?_ | refine .len fun v hv => ?_ | refine .all True.intro fun v hv => ?_ | refine Lt.to (by decide) rfl ?_ | (refine .au fun vr vn hvr hvn hvl => ?_; try simp only [List.length_cons, List.length_nil] at hvl) | fail)
        all_goals (try cbv)
        all_goals first
          | (have hbe : b = false := hi
             subst hbe; (refine hQ _ ?_; exact ⟨rfl, rfl, rfl, rfl, rfl⟩))
          | (exfalso; omega)
    · rw [hT] at hi
      clear hT
      obtain ⟨U, hU⟩ : ∃ U, U = (List.range gs.length).all fun j : Nat => S (j + 1) := ⟨_, rfl⟩
      rw [← hU] at hi
      have hlg : 0 ≤ n ∧ n.toNat = rg.length := ⟨hn0, by omega⟩
      cases i1 with
      | false =>
        clear hU cs
        try rw [← hP] at cr
        try rw [← hP] at kr
        repeat' (cbv; first | refine .y ?_ | refine .n ?_ | refine .split (fun hc => ?_) fun hc => ?_ | refine EqQ.ints rfl (fun hc => ?_) fun hc => ?_ | refine .ln hlg ?_ | refine .go cr ?_ | refine .go kr ?_ | refine .wa fun v hv => ?_ | refine .ra fun v hv => ?_ | refine .qa fun v hv => ?_ | refine .len fun v hv => ?_ | refine .all True.intro fun v hv => ?_ | refine Lt.to (by decide) rfl ?_ | (refine .au fun vr vn hvr hvn hvl => ?_; try simp only [List.length_cons, List.length_nil] at hvl) | fail)
        all_goals (try cbv)
        have hbe : b = false := by exact hi
        subst hbe; refine hQ _ ?_; exact ⟨rfl, rfl, rfl, rfl, rfl⟩
      | true =>
      cases i2 with
      | false =>
        clear hU cs
        try rw [← hP] at cr
        try rw [← hP] at kr
        try rw [← hP] at cw
        try rw [← hP] at kw
        repeat' (cbv; first | refine .y ?_ | refine .n ?_ | refine .split (fun hc => ?_) fun hc => ?_ | refine EqQ.ints rfl (fun hc => ?_) fun hc => ?_ | refine .ln hlg ?_ | refine .go cr ?_ | refine .go kr ?_ | refine .go cw ?_ | refine .go kw ?_ | refine .wa fun v hv => ?_ | refine .ra fun v hv => ?_ | refine .qa fun v hv => ?_ | refine .len fun v hv => ?_ | refine .all True.intro fun v hv => ?_ | refine Lt.to (by decide) rfl ?_ | (refine .au fun vr vn hvr hvn hvl => ?_; try simp only [List.length_cons, List.length_nil] at hvl) | fail)
        all_goals (try cbv)
        have hbe : b = false := by exact hi
        subst hbe; refine hQ _ ?_; exact ⟨rfl, rfl, rfl, rfl, rfl⟩
      | true =>
      cases i3 with
      | false =>
        clear hU cs
        try rw [← hP] at cr
        try rw [← hP] at kr
        try rw [← hP] at cw
        try rw [← hP] at kw
        try rw [← hP] at co
        try rw [← hP] at ko
        repeat' (cbv; first | refine .y ?_ | refine .n ?_ | refine .split (fun hc => ?_) fun hc => ?_ | refine EqQ.ints rfl (fun hc => ?_) fun hc => ?_ | refine .ln hlg ?_ | refine .go cr ?_ | refine .go kr ?_ | refine .go cw ?_ | refine .go kw ?_ | refine .go co ?_ | refine .go ko ?_ | refine .wa fun v hv => ?_ | refine .ra fun v hv => ?_ | refine .qa fun v hv => ?_ | refine .len fun v hv => ?_ | refine .all True.intro fun v hv => ?_ | refine Lt.to (by decide) rfl ?_ | (refine .au fun vr vn hvr hvn hvl => ?_; try simp only [List.length_cons, List.length_nil] at hvl) | fail)
        all_goals (try cbv)
        have hbe : b = false := by exact hi
        subst hbe; refine hQ _ ?_; exact ⟨rfl, rfl, rfl, rfl, rfl⟩
      | true =>
      cases i4 with
      | false =>
        clear hU cs
        try rw [← hP] at cr
        try rw [← hP] at kr
        try rw [← hP] at cw
        try rw [← hP] at kw
        try rw [← hP] at co
        try rw [← hP] at ko
        try rw [← hP] at cf
        try rw [← hP] at kf
        repeat' (cbv; first | refine .y ?_ | refine .n ?_ | refine .split (fun hc => ?_) fun hc => ?_ | refine EqQ.ints rfl (fun hc => ?_) fun hc => ?_ | refine .ln hlg ?_ | refine .go cr ?_ | refine .go kr ?_ | refine .go cw ?_ | refine .go kw ?_ | refine .go co ?_ | refine .go ko ?_ | refine .go cf ?_ | refine .go kf ?_ | refine .wa fun v hv => ?_ | refine .ra fun v hv => ?_ | refine .qa fun v hv => ?_ | refine .len fun v hv => ?_ | refine .all True.intro fun v hv => ?_ | refine Lt.to (by decide) rfl ?_ | (refine .au fun vr vn hvr hvn hvl => ?_; try simp only [List.length_cons, List.length_nil] at hvl) | fail)
        all_goals (try cbv)
        have hbe : b = false := by exact hi
        subst hbe; refine hQ _ ?_; exact ⟨rfl, rfl, rfl, rfl, rfl⟩
      | true =>
      simp only [Bool.true_and] at hi
      try rw [← hP] at cr
      try rw [← hP] at kr
      try rw [← hP] at cw
      try rw [← hP] at kw
      try rw [← hP] at co
      try rw [← hP] at ko
      try rw [← hP] at cf
      try rw [← hP] at kf
      repeat' (cbv; first | refine .y ?_ | refine .n ?_ | refine .split (fun hc => ?_) fun hc => ?_ | refine EqQ.ints rfl (fun hc => ?_) fun hc => ?_ | refine .ln hlg ?_ | refine .go cr ?_ | refine .go kr ?_ | refine .go cw ?_ | refine .go kw ?_ | refine .go co ?_ | refine .go ko ?_ | refine .go cf ?_ | refine .go kf ?_ | refine .wa fun v hv => ?_ | refine .ra fun v hv => ?_ | refine .qa fun v hv => ?_ | refine .len fun v hv => ?_ | refine .all True.intro fun v hv => ?_ | refine Lt.to (by decide) rfl ?_ | (refine .au fun vr vn hvr hvn hvl => ?_; try simp only [List.length_cons, List.length_nil] at hvl) | fail)
      all_goals (try cbv)
      rw [hU] at hi
      clear hU
      refine LoopQ.to (ι := Int) (fun i => ⟨tab .undef [(1, .ptr 100 0), (4, .int .i64 n), (5, .int .i64 i)], tab .dead [(100, .box (stL rp rg rq rm rl c0 c1 c2 c3 r0 r1 r2 r3 rt ck pr))]⟩)
        (fun i => 1 ≤ i ∧ (i - 1).toNat ≤ gs.length ∧ b = ((List.range gs.length).drop (i - 1).toNat).all fun j : Nat => S (j + 1)) (fun i => gs.length - (i - 1).toNat) 1 ⟨by omega, by omega, hi⟩ rfl fun i ⟨j0, j1, hi⟩ A hA => ?_
      rcases drop_cases (l := List.range gs.length) (i := (i - 1).toNat) (by rw [List.length_range]; exact j1) with ⟨e, hd⟩ | ⟨hlt, x, hd, hx⟩
      · rw [hd] at hi
        rw [List.length_range] at e
        repeat' (cbv; first | refine .y ?_ | refine .n ?_ | refine .split (fun hc => ?_) fun hc => ?_ | refine EqQ.ints rfl (fun hc => ?_) fun hc => ?_ | refine .wa fun v hv => ?_ | refine .ra fun v hv => ?_ | refine .qa fun v hv => ?_ | refine .len fun v hv => ?_ | refine .all True.intro fun v hv => ?_ | refine Lt.to (by decide) rfl ?_ | (refine .au fun vr vn hvr hvn hvl => ?_; try simp only [List.length_cons, List.length_nil] at hvl) | fail)
        all_goals (try cbv)
        have hbe : b = true := by rw [hi]; rfl
        subst hbe; refine hQ _ ?_; exact ⟨rfl, rfl, rfl, rfl, rfl⟩
      · rw [hd, List.all_cons] at hi
        rw [List.length_range] at hlt
        rw [List.getElem?_range hlt] at hx
        obtain ⟨y, hy⟩ : ∃ y, y = S i := ⟨_, rfl⟩
        have hxi : ((x : Int) + 1) = i := by cases hx; omega
        rw [hxi, ← hy] at hi
        have c1 := cs i j0 (by omega) y hy
        cases y with
        | false =>
          try rw [← hP] at c1
          repeat' (cbv; first | refine .y ?_ | refine .n ?_ | refine .split (fun hc => ?_) fun hc => ?_ | refine EqQ.ints rfl (fun hc => ?_) fun hc => ?_ | refine .go c1 ?_ | refine .wa fun v hv => ?_ | refine .ra fun v hv => ?_ | refine .qa fun v hv => ?_ | refine .len fun v hv => ?_ | refine .all True.intro fun v hv => ?_ | refine Lt.to (by decide) rfl ?_ | (refine .au fun vr vn hvr hvn hvl => ?_; try simp only [List.length_cons, List.length_nil] at hvl) | fail)
          all_goals (try cbv)
          have hbe : b = false := by exact hi
          subst hbe; refine hQ _ ?_; exact ⟨rfl, rfl, rfl, rfl, rfl⟩
        | true =>
          try rw [← hP] at c1
          repeat' (cbv; first | refine .y ?_ | refine .n ?_ | refine .split (fun hc => ?_) fun hc => ?_ | refine EqQ.ints rfl (fun hc => ?_) fun hc => ?_ | refine .go c1 ?_ | refine .wa fun v hv => ?_ | refine .ra fun v hv => ?_ | refine .qa fun v hv => ?_ | refine .len fun v hv => ?_ | refine .all True.intro fun v hv => ?_ | refine Lt.to (by decide) rfl ?_ | (refine .au fun vr vn hvr hvn hvl => ?_; try simp only [List.length_cons, List.length_nil] at hvl) | fail)
          all_goals (try cbv)
          exact hA v _ ⟨by omega, by omega, by rw [hi, Bool.true_and, show (v - 1).toNat = (i - 1).toNat + 1 by omega]⟩ (by omega) rfl
  · rw [decide_eq_false hlin, Bool.false_and, Bool.and_false] at hb
    cases bp
    all_goals
      try rw [← hP] at cp
      repeat' (cbv; first | refine .y ?_ | refine .n ?_ | refine .split (fun hc => ?_) fun hc => ?_ | refine EqQ.ints rfl (fun hc => ?_) fun hc => ?_ | refine .go cp ?_ | refine .wa fun v hv => ?_ | refine .ra fun v hv => ?_ | refine .qa fun v hv => ?_ | refine .len fun v hv => ?_ | refine .all True.intro fun v hv => ?_ | refine Lt.to (by decide) rfl ?_ | (refine .au fun vr vn hvr hvn hvl => ?_; try simp only [List.length_cons, List.length_nil] at hvl) | fail)
      all_goals (try cbv)
      all_goals first
        | (have hbe : b = false := hb
           subst hbe; (refine hQ _ ?_; exact ⟨rfl, rfl, rfl, rfl, rfl⟩))
        | (exfalso; omega)
end Go.Ab

namespace Go.Ab
open Go Go.Proofs
set_option maxRecDepth 100000

theorem freshR_iC (l : List Int) : V.freshR (l.map iC) = true := by
  induction l with
  | nil => rfl
  | cons x l ih => simp only [List.map_cons, V.freshR, ih, Bool.and_true]; rfl
def plC (x : Int × Int) : List V := [.int .i64 x.1, .int .i64 x.2]
def atPs : Int → List PD → Int → Int × Int
  | _, [], _ => (3, 0)
  | i, p :: l, n => if p.nx = n then (1, i + 1) else if 0 < timesL (listR p.r) n then (2, i + 1) else atPs (i + 1) l n

set_option maxHeartbeats 4000000 in
theorem c42 (s : SD) (hq : s.ps.length ≤ 1000000) (n : Int) (z : Int × Int) (hz : z = atPs 0 s.ps n) : CallsV Try.prog 42 [.agg (stC s), .int .i64 n] (.agg (plC z)) [.undef, .undef] true := by
  obtain ⟨z1, z2⟩ := z
  obtain ⟨prog, gs, ps, ms, gl, c0, c1, c2, c3, w0, w1, w2, w3, ts, ck, pr⟩ := s
  obtain ⟨rp, rg, rq, rm, rl, r0, r1, r2, r3, rt, ⟨h_rp, s_rp, l_rp⟩, ⟨h_rg, s_rg, l_rg⟩, ⟨h_rq, s_rq, l_rq⟩, ⟨h_rm, s_rm, l_rm⟩, ⟨h_rl, s_rl, l_rl⟩, ⟨h_r0, s_r0, l_r0⟩, ⟨h_r1, s_r1, l_r1⟩, ⟨h_r2, s_r2, l_r2⟩, ⟨h_r3, s_r3, l_r3⟩, ⟨h_rt, s_rt, l_rt⟩, hst_⟩ := stR prog gs ps ms gl c0 c1 c2 c3 w0 w1 w2 w3 ts ck pr
  dsimp only at hq hz ⊢
  rw [hst_]
  refine callsV_q hD Try.func42 ok42 rfl rfl (by simp only [List.map_cons, List.map_nil, V.sh, V.shL, stL, s_rp, s_rg, s_rq, s_rm, s_rl, s_r0, s_r1, s_r2, s_r3, s_rt]) fun P Q hP hQ => ?_
  clear hst_
  repeat' (cbv; first | refine .y ?_ | refine .n ?_ | refine .split (fun hc => ?_) fun hc => ?_ | refine EqQ.ints rfl (fun hc => ?_) fun hc => ?_ | refine .wa fun v hv => ?_ | refine .ra fun v hv => ?_ | refine .qa fun v hv => ?_ | refine .len fun v hv => ?_ | refine .all True.intro fun v hv => ?_ | refine Lt.to (by decide) rfl ?_ | (refine .au fun vr vn hvr hvn hvl => ?_; try simp only [List.length_cons, List.length_nil] at hvl) | fail)
  all_goals (try cbv)
  refine LoopQ.to (ι := Int) (fun i => ⟨tab .undef [(1, .int .i64 n), (2, .ptr 100 0), (4, .ptr 101 0), (5, .int .i64 i)], tab .dead [(100, .box (stL rp rg rq rm rl c0 c1 c2 c3 r0 r1 r2 r3 rt ck pr)), (101, .box [.int .i64 0, .int .i64 0])]⟩)
    (fun i => 0 ≤ i ∧ i.toNat ≤ ps.length ∧ (z1, z2) = atPs i (ps.drop i.toNat) n) (fun i => ps.length - i.toNat) 0 ⟨by omega, by omega, hz⟩ rfl fun i ⟨i0, i1, hi⟩ A hA => ?_
  clear hz
  rcases drop_cases i1 with ⟨e, hd⟩ | ⟨hlt, x, hd, hx⟩
  · rw [hd, atPs, Prod.mk.injEq] at hi
    obtain ⟨rfl, rfl⟩ := hi
    repeat' (cbv; first | refine .y ?_ | refine .n ?_ | refine .split (fun hc => ?_) fun hc => ?_ | refine EqQ.ints rfl (fun hc => ?_) fun hc => ?_ | refine .wa fun v hv => ?_ | refine .ra fun v hv => ?_ | refine .qa fun v hv => ?_ | refine .len fun v hv => ?_ | refine .all True.intro fun v hv => ?_ | refine Lt.to (by decide) rfl ?_ | (refine .au fun vr vn hvr hvn hvl => ?_; try simp only [List.length_cons, List.length_nil] at hvl) | fail)
    all_goals (try cbv)
    (refine hQ _ ?_; exact ⟨rfl, rfl, rfl, rfl, rfl⟩)
  · rw [hd, atPs] at hi
    have ga := getD_rows h_rq hx
    have cl := r_rList x.r
    have hl := listR_len x.r
    obtain ⟨t, ht⟩ : ∃ t, t = timesL (listR x.r) n := ⟨_, rfl⟩
    have ct := c22 (listR x.r) (by omega) n t ht
    rw [← ht] at hi
    obtain ⟨q, hq'⟩ : ∃ q, q = listR x.r := ⟨_, rfl⟩
    rw [← hq'] at cl ct hl
    clear ht hq'
    obtain ⟨x0, x1, ⟨x2, x3, x4, x5, x6, x7, x8, x9, x10, x11⟩, x12⟩ := x
    dsimp only at cl hi
    obtain ⟨rw, h_rw⟩ : ∃ r, r = q.map iC := ⟨_, rfl⟩
    have s_rw : V.shR rw = rw := by rw [h_rw]; exact shR_iC q
    have l_rw : rw.length = q.length := by simp [h_rw]
    rw [← h_rw] at cl ct
    try rw [← hP] at cl
    try rw [← hP] at ct
    repeat' (cbv; first | refine .y ?_ | refine .n ?_ | refine .split (fun hc => ?_) fun hc => ?_ | refine EqQ.ints rfl (fun hc => ?_) fun hc => ?_ | refine .row ga ?_ | refine .go cl ?_ | refine .go ct ?_ | refine .wa fun v hv => ?_ | refine .ra fun v hv => ?_ | refine .qa fun v hv => ?_ | refine .len fun v hv => ?_ | refine .all True.intro fun v hv => ?_ | refine Lt.to (by decide) rfl ?_ | (refine .au fun vr vn hvr hvn hvl => ?_; try simp only [List.length_cons, List.length_nil] at hvl) | fail)
    all_goals (try cbv)
    · rw [if_pos hc, Prod.mk.injEq] at hi
      obtain ⟨rfl, rfl⟩ := hi
      have hvz : v = i + 1 := hv
      subst hvz
      (refine hQ _ ?_; exact ⟨rfl, rfl, rfl, rfl, rfl⟩)
    · rw [if_neg (by omega), if_pos (by omega), Prod.mk.injEq] at hi
      obtain ⟨rfl, rfl⟩ := hi
      have hvz : v = i + 1 := hv
      subst hvz
      (refine hQ _ ?_; exact ⟨rfl, rfl, rfl, rfl, rfl⟩)
    · rw [if_neg (by omega), if_neg (by omega)] at hi
      exact hA v _ ⟨by omega, by omega, by rw [hi, show v.toNat = i.toNat + 1 by omega, hv]⟩ (by omega) rfl

def placeS (s : SD) (n : Int) : Int × Int :=
  if ¬ (1 ≤ n ∧ n.toNat ≤ s.gs.length) ∨ mayS s = false then (0, 0)
  else
    let g := s.gs.getD (n.toNat - 1) default
    if g.st = 1 then atPs 0 s.ps n
    else if g.st = 2 then (4, g.m)
    else if g.st = 4 then (7, g.m)
    else if g.st = 5 then (8, 0)
    else if 0 < timesL s.w0 n then (5, 0)
    else if 0 < timesL s.w1 n then (5, 1)
    else if 0 < timesL s.w2 n then (5, 2)
    else if 0 < timesL s.w3 n then (5, 3)
    else (6, 0)
def queueS (s : SD) (p : Int) : List Int :=
  if ¬ (1 ≤ p ∧ p ≤ s.pr) ∨ mayS s = false then [] else queueOf (s.ps.getD (p.toNat - 1) default)
def queueV (s : SD) (p : Int) : V :=
  if ¬ (1 ≤ p ∧ p ≤ s.pr) ∨ mayS s = false then .own 1 [] else .sl true 1 ((queueOf (s.ps.getD (p.toNat - 1) default)).map iC)

set_option maxHeartbeats 8000000 in
theorem c17 (s : SD) (hs : Fit s) (n : Int) (z : Int × Int) (hz : z = placeS s n) : CallsV Try.prog 17 [.agg (stC s), .int .i64 n] (.agg (plC z)) [.undef, .undef] true := by
  obtain ⟨bm, hbm⟩ : ∃ b, b = mayS s := ⟨_, rfl⟩
  have cm := c15 s hs bm hbm
  have hgs := hs.gs
  obtain ⟨za, hza⟩ : ∃ z, z = atPs 0 s.ps n := ⟨_, rfl⟩
  have ca := c42 s hs.ps n za hza
  obtain ⟨t0, ht0⟩ : ∃ t, t = timesL s.w0 n := ⟨_, rfl⟩
  obtain ⟨t1, ht1⟩ : ∃ t, t = timesL s.w1 n := ⟨_, rfl⟩
  obtain ⟨t2, ht2⟩ : ∃ t, t = timesL s.w2 n := ⟨_, rfl⟩
  obtain ⟨t3, ht3⟩ : ∃ t, t = timesL s.w3 n := ⟨_, rfl⟩
  have k0 := c22 s.w0 (by have := hs.w0; omega) n t0 ht0
  have k1 := c22 s.w1 (by have := hs.w1; omega) n t1 ht1
  have k2 := c22 s.w2 (by have := hs.w2; omega) n t2 ht2
  have k3 := c22 s.w3 (by have := hs.w3; omega) n t3 ht3
  unfold placeS at hz
  rw [← hbm, ← hza, ← ht0, ← ht1, ← ht2, ← ht3] at hz
  clear hbm hza ht0 ht1 ht2 ht3 hs
  obtain ⟨z1, z2⟩ := z
  obtain ⟨za1, za2⟩ := za
  obtain ⟨prog, gs, ps, ms, gl, c0, c1, c2, c3, w0, w1, w2, w3, ts, ck, pr⟩ := s
  obtain ⟨rp, rg, rq, rm, rl, r0, r1, r2, r3, rt, ⟨h_rp, s_rp, l_rp⟩, ⟨h_rg, s_rg, l_rg⟩, ⟨h_rq, s_rq, l_rq⟩, ⟨h_rm, s_rm, l_rm⟩, ⟨h_rl, s_rl, l_rl⟩, ⟨h_r0, s_r0, l_r0⟩, ⟨h_r1, s_r1, l_r1⟩, ⟨h_r2, s_r2, l_r2⟩, ⟨h_r3, s_r3, l_r3⟩, ⟨h_rt, s_rt, l_rt⟩, hst_⟩ := stR prog gs ps ms gl c0 c1 c2 c3 w0 w1 w2 w3 ts ck pr
  dsimp only at hgs hz k0 k1 k2 k3
  rw [hst_] at cm ca ⊢
  rw [← h_r0] at k0
  rw [← h_r1] at k1
  rw [← h_r2] at k2
  rw [← h_r3] at k3
  refine callsV_q hD Try.func17 ok17 rfl rfl (by simp only [List.map_cons, List.map_nil, V.sh, V.shL, stL, s_rp, s_rg, s_rq, s_rm, s_rl, s_r0, s_r1, s_r2, s_r3, s_rt]) fun P Q hP hQ => ?_
  clear hst_ h_rp h_rq h_rl h_r0 h_r1 h_r2 h_r3 h_rt h_rm l_rp l_rq l_rl l_rt l_rm l_r0 l_r1 l_r2 l_r3
  by_cases hn : 1 ≤ n ∧ n.toNat ≤ gs.length
  · cases bm with
    | false =>
      rw [if_pos (.inr rfl), Prod.mk.injEq] at hz
      obtain ⟨rfl, rfl⟩ := hz
      try rw [← hP] at cm
      repeat' (cbv; first | refine .y ?_ | refine .n ?_ | refine .split (fun hc => ?_) fun hc => ?_ | refine EqQ.ints rfl (fun hc => ?_) fun hc => ?_ | refine .go cm ?_ | refine .wa fun v hv => ?_ | refine .ra fun v hv => ?_ | refine .qa fun v hv => ?_ | refine .len fun v hv => ?_ | refine .all True.intro fun v hv => ?_ | refine Lt.to (by decide) rfl ?_ | (refine .au fun vr vn hvr hvn hvl => ?_; try simp only [List.length_cons, List.length_nil] at hvl) | fail)
      all_goals (try cbv)
      (refine hQ _ ?_; exact ⟨rfl, rfl, rfl, rfl, rfl⟩)
    | true =>
    rw [if_neg (by simp only [not_or, Bool.true_eq_false, not_false_eq_true, and_true, Classical.not_not]; exact hn)] at hz
    obtain ⟨x, hx⟩ : ∃ x, gs[n.toNat - 1]? = some x := ⟨_, List.getElem?_eq_getElem (by omega)⟩
    obtain ⟨k, hk⟩ : ∃ k : Int, k = n - 1 := ⟨_, rfl⟩
    have ga : rg.getD k.toNat [] = gC x := by rw [show k.toNat = n.toNat - 1 by omega]; exact getD_rows h_rg hx
    rw [getD_of hx] at hz
    obtain ⟨xf, xp, xs, xm, xq⟩ := x
    dsimp only at hz
    clear hx h_rg
    rcases (show xs = 1 ∨ xs = 2 ∨ xs = 4 ∨ xs = 5 ∨ (xs ≠ 1 ∧ xs ≠ 2 ∧ xs ≠ 4 ∧ xs ≠ 5) by omega) with e | e | e | e | e
    · subst e
      rw [if_pos rfl, Prod.mk.injEq] at hz
      obtain ⟨rfl, rfl⟩ := hz
      try rw [← hP] at cm
      try rw [← hP] at ca
      repeat' (cbv; first | refine .y ?_ | refine .n ?_ | refine .split (fun hc => ?_) fun hc => ?_ | refine EqQ.ints rfl (fun hc => ?_) fun hc => ?_ | refine .go cm ?_ | refine .wn hk ?_ | refine .row ga ?_ | refine .go ca ?_ | refine .wa fun v hv => ?_ | refine .ra fun v hv => ?_ | refine .qa fun v hv => ?_ | refine .len fun v hv => ?_ | refine .all True.intro fun v hv => ?_ | refine Lt.to (by decide) rfl ?_ | (refine .au fun vr vn hvr hvn hvl => ?_; try simp only [List.length_cons, List.length_nil] at hvl) | fail)
      all_goals (try cbv)
      (refine hQ _ ?_; exact ⟨rfl, rfl, rfl, rfl, rfl⟩)
    · subst e
      rw [if_neg (by omega), if_pos rfl, Prod.mk.injEq] at hz
      obtain ⟨rfl, rfl⟩ := hz
      try rw [← hP] at cm
      repeat' (cbv; first | refine .y ?_ | refine .n ?_ | refine .split (fun hc => ?_) fun hc => ?_ | refine EqQ.ints rfl (fun hc => ?_) fun hc => ?_ | refine .go cm ?_ | refine .wn hk ?_ | refine .row ga ?_ | refine .wa fun v hv => ?_ | refine .ra fun v hv => ?_ | refine .qa fun v hv => ?_ | refine .len fun v hv => ?_ | refine .all True.intro fun v hv => ?_ | refine Lt.to (by decide) rfl ?_ | (refine .au fun vr vn hvr hvn hvl => ?_; try simp only [List.length_cons, List.length_nil] at hvl) | fail)
      all_goals (try cbv)
      (refine hQ _ ?_; exact ⟨rfl, rfl, rfl, rfl, rfl⟩)
    · subst e
      rw [if_neg (by omega), if_neg (by omega), if_pos rfl, Prod.mk.injEq] at hz
      obtain ⟨rfl, rfl⟩ := hz
      try rw [← hP] at cm
      repeat' (cbv; first | refine .y ?_ | refine .n ?_ | refine .split (fun hc => ?_) fun hc => ?_ | refine EqQ.ints rfl (fun hc => ?_) fun hc => ?_ | refine .go cm ?_ | refine .wn hk ?_ | refine .row ga ?_ | refine .wa fun v hv => ?_ | refine .ra fun v hv => ?_ | refine .qa fun v hv => ?_ | refine .len fun v hv => ?_ | refine .all True.intro fun v hv => ?_ | refine Lt.to (by decide) rfl ?_ | (refine .au fun vr vn hvr hvn hvl => ?_; try simp only [List.length_cons, List.length_nil] at hvl) | fail)
      all_goals (try cbv)
      (refine hQ _ ?_; exact ⟨rfl, rfl, rfl, rfl, rfl⟩)
    · subst e
      rw [if_neg (by omega), if_neg (by omega), if_neg (by omega), if_pos rfl, Prod.mk.injEq] at hz
      obtain ⟨rfl, rfl⟩ := hz
      try rw [← hP] at cm
      repeat' (cbv; first | refine .y ?_ | refine .n ?_ | refine .split (fun hc => ?_) fun hc => ?_ | refine EqQ.ints rfl (fun hc => ?_) fun hc => ?_ | refine .go cm ?_ | refine .wn hk ?_ | refine .row ga ?_ | refine .wa fun v hv => ?_ | refine .ra fun v hv => ?_ | refine .qa fun v hv => ?_ | refine .len fun v hv => ?_ | refine .all True.intro fun v hv => ?_ | refine Lt.to (by decide) rfl ?_ | (refine .au fun vr vn hvr hvn hvl => ?_; try simp only [List.length_cons, List.length_nil] at hvl) | fail)
      all_goals (try cbv)
      (refine hQ _ ?_; exact ⟨rfl, rfl, rfl, rfl, rfl⟩)
    · rw [if_neg (by omega), if_neg (by omega), if_neg (by omega), if_neg (by omega)] at hz
      try rw [← hP] at cm
      repeat' (cbv; first | refine .y ?_ | refine .n ?_ | refine .split (fun hc => ?_) fun hc => ?_ | refine EqQ.ints rfl (fun hc => ?_) fun hc => ?_ | refine .go cm ?_ | refine .wn hk ?_ | refine .row ga ?_ | refine .wa fun v hv => ?_ | refine .ra fun v hv => ?_ | refine .qa fun v hv => ?_ | refine .len fun v hv => ?_ | refine .all True.intro fun v hv => ?_ | refine Lt.to (by decide) rfl ?_ | (refine .au fun vr vn hvr hvn hvl => ?_; try simp only [List.length_cons, List.length_nil] at hvl) | fail)
      all_goals (try cbv)
      refine LoopQ.to (ι := Int) (fun i => ⟨tab .undef [(1, .int .i64 n), (2, .ptr 100 0), (4, .ptr 101 0), (6, .int .i64 i)], tab .dead [(100, .box (stL rp rg rq rm rl c0 c1 c2 c3 r0 r1 r2 r3 rt ck pr)), (101, .box [.int .i64 0, .int .i64 0])]⟩)
        (fun i => (i = 0 ∧ (z1, z2) = if 0 < t0 then (5, 0) else if 0 < t1 then (5, 1) else if 0 < t2 then (5, 2) else if 0 < t3 then (5, 3) else (6, 0)) ∨ (i = 1 ∧ (z1, z2) = if 0 < t1 then (5, 1) else if 0 < t2 then (5, 2) else if 0 < t3 then (5, 3) else (6, 0)) ∨ (i = 2 ∧ (z1, z2) = if 0 < t2 then (5, 2) else if 0 < t3 then (5, 3) else (6, 0)) ∨ (i = 3 ∧ (z1, z2) = if 0 < t3 then (5, 3) else (6, 0)) ∨ (i = 4 ∧ (z1, z2) = (6, 0)))
        (fun i => (4 - i).toNat) 0 (.inl ⟨rfl, hz⟩) rfl fun i hi A hA => ?_
      clear hz
      rcases hi with ⟨rfl, hi⟩ | ⟨rfl, hi⟩ | ⟨rfl, hi⟩ | ⟨rfl, hi⟩ | ⟨rfl, hi⟩
      · try rw [← hP] at k0
        repeat' (cbv; first | refine .y ?_ | refine .n ?_ | refine .split (fun hc => ?_) fun hc => ?_ | refine EqQ.ints rfl (fun hc => ?_) fun hc => ?_ | refine .go k0 ?_ | refine .wa fun v hv => ?_ | refine .ra fun v hv => ?_ | refine .qa fun v hv => ?_ | refine .len fun v hv => ?_ | refine .all True.intro fun v hv => ?_ | refine Lt.to (by decide) rfl ?_ | (refine .au fun vr vn hvr hvn hvl => ?_; try simp only [List.length_cons, List.length_nil] at hvl) | fail)
        all_goals (try cbv)
        · rw [if_pos (by omega), Prod.mk.injEq] at hi
          obtain ⟨rfl, rfl⟩ := hi
          (refine hQ _ ?_; exact ⟨rfl, rfl, rfl, rfl, rfl⟩)
        · rw [if_neg (by omega)] at hi
          exact hA v _ (.inr (.inl ⟨hv, hi⟩)) (by omega) rfl
      · try rw [← hP] at k1
        repeat' (cbv; first | refine .y ?_ | refine .n ?_ | refine .split (fun hc => ?_) fun hc => ?_ | refine EqQ.ints rfl (fun hc => ?_) fun hc => ?_ | refine .go k1 ?_ | refine .wa fun v hv => ?_ | refine .ra fun v hv => ?_ | refine .qa fun v hv => ?_ | refine .len fun v hv => ?_ | refine .all True.intro fun v hv => ?_ | refine Lt.to (by decide) rfl ?_ | (refine .au fun vr vn hvr hvn hvl => ?_; try simp only [List.length_cons, List.length_nil] at hvl) | fail)
        all_goals (try cbv)
        · rw [if_pos (by omega), Prod.mk.injEq] at hi
          obtain ⟨rfl, rfl⟩ := hi
          (refine hQ _ ?_; exact ⟨rfl, rfl, rfl, rfl, rfl⟩)
        · rw [if_neg (by omega)] at hi
          exact hA v _ (.inr (.inr (.inl ⟨hv, hi⟩))) (by omega) rfl
      · try rw [← hP] at k2
        repeat' (cbv; first | refine .y ?_ | refine .n ?_ | refine .split (fun hc => ?_) fun hc => ?_ | refine EqQ.ints rfl (fun hc => ?_) fun hc => ?_ | refine .go k2 ?_ | refine .wa fun v hv => ?_ | refine .ra fun v hv => ?_ | refine .qa fun v hv => ?_ | refine .len fun v hv => ?_ | refine .all True.intro fun v hv => ?_ | refine Lt.to (by decide) rfl ?_ | (refine .au fun vr vn hvr hvn hvl => ?_; try simp only [List.length_cons, List.length_nil] at hvl) | fail)
        all_goals (try cbv)
        · rw [if_pos (by omega), Prod.mk.injEq] at hi
          obtain ⟨rfl, rfl⟩ := hi
          (refine hQ _ ?_; exact ⟨rfl, rfl, rfl, rfl, rfl⟩)
        · rw [if_neg (by omega)] at hi
          exact hA v _ (.inr (.inr (.inr (.inl ⟨hv, hi⟩)))) (by omega) rfl
      · try rw [← hP] at k3
        repeat' (cbv; first | refine .y ?_ | refine .n ?_ | refine .split (fun hc => ?_) fun hc => ?_ | refine EqQ.ints rfl (fun hc => ?_) fun hc => ?_ | refine .go k3 ?_ | refine .wa fun v hv => ?_ | refine .ra fun v hv => ?_ | refine .qa fun v hv => ?_ | refine .len fun v hv => ?_ | refine .all True.intro fun v hv => ?_ | refine Lt.to (by decide) rfl ?_ | (refine .au fun vr vn hvr hvn hvl => ?_; try simp only [List.length_cons, List.length_nil] at hvl) | fail)
        all_goals (try cbv)
        · rw [if_pos (by omega), Prod.mk.injEq] at hi
          obtain ⟨rfl, rfl⟩ := hi
          (refine hQ _ ?_; exact ⟨rfl, rfl, rfl, rfl, rfl⟩)
        · rw [if_neg (by omega)] at hi
          exact hA v _ (.inr (.inr (.inr (.inr ⟨hv, hi⟩)))) (by omega) rfl
      · rw [Prod.mk.injEq] at hi
        obtain ⟨rfl, rfl⟩ := hi
        repeat' (cbv; first | refine .y ?_ | refine .n ?_ | refine .split (fun hc => ?_) fun hc => ?_ | refine EqQ.ints rfl (fun hc => ?_) fun hc => ?_ | refine .wa fun v hv => ?_ | refine .ra fun v hv => ?_ | refine .qa fun v hv => ?_ | refine .len fun v hv => ?_ | refine .all True.intro fun v hv => ?_ | refine Lt.to (by decide) rfl ?_ | (refine .au fun vr vn hvr hvn hvl => ?_; try simp only [List.length_cons, List.length_nil] at hvl) | fail)
        all_goals (try cbv)
        (refine hQ _ ?_; exact ⟨rfl, rfl, rfl, rfl, rfl⟩)
  · rw [if_pos (.inl hn), Prod.mk.injEq] at hz
    obtain ⟨rfl, rfl⟩ := hz
    try rw [← hP] at cm
    repeat' (cbv; first | refine .y ?_ | refine .n ?_ | refine .split (fun hc => ?_) fun hc => ?_ | refine EqQ.ints rfl (fun hc => ?_) fun hc => ?_ | refine .go cm ?_ | refine .wa fun v hv => ?_ | refine .ra fun v hv => ?_ | refine .qa fun v hv => ?_ | refine .len fun v hv => ?_ | refine .all True.intro fun v hv => ?_ | refine Lt.to (by decide) rfl ?_ | (refine .au fun vr vn hvr hvn hvl => ?_; try simp only [List.length_cons, List.length_nil] at hvl) | fail)
    all_goals (try cbv)
    all_goals first
      | (refine hQ _ ?_; exact ⟨rfl, rfl, rfl, rfl, rfl⟩)
      | (exfalso; omega)

set_option maxHeartbeats 4000000 in
theorem c20 (s : SD) (hs : Fit s) (p : Int) : CallsV Try.prog 20 [.agg (stC s), .int .i64 p] (queueV s p) [.undef, .undef] true := by
  obtain ⟨bm, hbm⟩ : ∃ b, b = mayS s := ⟨_, rfl⟩
  have cm := c15 s hs bm hbm
  have hl : mayS s = true → s.ps.length = 8 ∧ s.pr ≤ 8 := fun h => by
    unfold mayS at h
    simp only [Bool.and_eq_true, decide_eq_true_eq] at h
    exact ⟨h.2.1.2.2.1, h.2.1.2.2.2.2.1⟩
  unfold queueV
  by_cases hc : ¬ (1 ≤ p ∧ p ≤ s.pr) ∨ mayS s = false
  · rw [if_pos hc]
    rw [← hbm] at hc hl
    clear hbm hs
    obtain ⟨prog, gs, ps, ms, gl, c0, c1, c2, c3, w0, w1, w2, w3, ts, ck, pr⟩ := s
    obtain ⟨rp, rg, rq, rm, rl, r0, r1, r2, r3, rt, ⟨h_rp, s_rp, l_rp⟩, ⟨h_rg, s_rg, l_rg⟩, ⟨h_rq, s_rq, l_rq⟩, ⟨h_rm, s_rm, l_rm⟩, ⟨h_rl, s_rl, l_rl⟩, ⟨h_r0, s_r0, l_r0⟩, ⟨h_r1, s_r1, l_r1⟩, ⟨h_r2, s_r2, l_r2⟩, ⟨h_r3, s_r3, l_r3⟩, ⟨h_rt, s_rt, l_rt⟩, hst_⟩ := stR prog gs ps ms gl c0 c1 c2 c3 w0 w1 w2 w3 ts ck pr
    dsimp only at hc hl ⊢
    rw [hst_] at cm ⊢
    refine callsV_q hD Try.func20 ok20 rfl rfl (by simp only [List.map_cons, List.map_nil, V.sh, V.shL, stL, s_rp, s_rg, s_rq, s_rm, s_rl, s_r0, s_r1, s_r2, s_r3, s_rt]) fun P Q hP hQ => ?_
    by_cases hp : 1 ≤ p ∧ p ≤ pr
    · obtain rfl : bm = false := hc.elim (fun h => absurd hp h) id
      clear hc
      try rw [← hP] at cm
      repeat' (cbv; first | refine .y ?_ | refine .n ?_ | refine .split (fun hc => ?_) fun hc => ?_ | refine EqQ.ints rfl (fun hc => ?_) fun hc => ?_ | refine .go cm ?_ | refine .wa fun v hv => ?_ | refine .ra fun v hv => ?_ | refine .qa fun v hv => ?_ | refine .len fun v hv => ?_ | refine .all True.intro fun v hv => ?_ | refine Lt.to (by decide) rfl ?_ | (refine .au fun vr vn hvr hvn hvl => ?_; try simp only [List.length_cons, List.length_nil] at hvl) | fail)
      all_goals (try cbv)
      (refine hQ _ ?_; exact ⟨rfl, rfl, rfl, rfl, rfl⟩)
    · clear hc hl
      have hp' : p < 1 ∨ pr < p := by omega
      clear hp
      rcases hp' with hp | hp
      all_goals
        repeat' (cbv; first | refine .y ?_ | refine .n ?_ | refine .split (fun hc => ?_) fun hc => ?_ | refine EqQ.ints rfl (fun hc => ?_) fun hc => ?_ | refine .wa fun v hv => ?_ | refine .ra fun v hv => ?_ | refine .qa fun v hv => ?_ | refine .len fun v hv => ?_ | refine .all True.intro fun v hv => ?_ | refine Lt.to (by decide) rfl ?_ | (refine .au fun vr vn hvr hvn hvl => ?_; try simp only [List.length_cons, List.length_nil] at hvl) | fail)
        all_goals (try cbv)
        all_goals first
          | (refine hQ _ ?_; exact ⟨rfl, rfl, rfl, rfl, rfl⟩)
          | (exfalso; omega)
  · rw [if_neg hc]
    have hb : bm = true := by rw [hbm]; cases h : mayS s <;> simp_all
    subst hb
    have hl' := hl hbm.symm
    clear hl hbm hs
    have hp : 1 ≤ p ∧ p ≤ s.pr := by simp only [not_or, Classical.not_not] at hc; exact hc.1
    clear hc
    obtain ⟨x, hx⟩ : ∃ x, s.ps[p.toNat - 1]? = some x := ⟨_, List.getElem?_eq_getElem (by omega)⟩
    rw [getD_of hx]
    have cq := c44 x
    obtain ⟨q, hq⟩ : ∃ q, q = queueOf x := ⟨_, rfl⟩
    rw [← hq] at cq ⊢
    clear hq
    obtain ⟨rw, h_rw⟩ : ∃ r, r = q.map iC := ⟨_, rfl⟩
    have s_rw : V.shR rw = rw := by rw [h_rw]; exact shR_iC q
    have l_rw : rw.length = q.length := by simp [h_rw]
    rw [← h_rw] at cq ⊢
    obtain ⟨prog, gs, ps, ms, gl, c0, c1, c2, c3, w0, w1, w2, w3, ts, ck, pr⟩ := s
    obtain ⟨rp, rg, rq, rm, rl, r0, r1, r2, r3, rt, ⟨h_rp, s_rp, l_rp⟩, ⟨h_rg, s_rg, l_rg⟩, ⟨h_rq, s_rq, l_rq⟩, ⟨h_rm, s_rm, l_rm⟩, ⟨h_rl, s_rl, l_rl⟩, ⟨h_r0, s_r0, l_r0⟩, ⟨h_r1, s_r1, l_r1⟩, ⟨h_r2, s_r2, l_r2⟩, ⟨h_r3, s_r3, l_r3⟩, ⟨h_rt, s_rt, l_rt⟩, hst_⟩ := stR prog gs ps ms gl c0 c1 c2 c3 w0 w1 w2 w3 ts ck pr
    dsimp only at hl' hp hx ⊢
    rw [hst_] at cm ⊢
    refine callsV_q hD Try.func20 ok20 rfl rfl (by simp only [List.map_cons, List.map_nil, V.sh, V.shL, stL, s_rp, s_rg, s_rq, s_rm, s_rl, s_r0, s_r1, s_r2, s_r3, s_rt]) fun P Q hP hQ => ?_
    obtain ⟨k, hk⟩ : ∃ k : Int, k = p - 1 := ⟨_, rfl⟩
    have ga : rq.getD k.toNat [] = pC x := by rw [show k.toNat = p.toNat - 1 by omega]; exact getD_rows h_rq hx
    clear hx h_rq
    obtain ⟨x0, x1, ⟨x2, x3, x4, x5, x6, x7, x8, x9, x10, x11⟩, x12⟩ := x
    try rw [← hP] at cm
    try rw [← hP] at cq
    repeat' (cbv; first | refine .y ?_ | refine .n ?_ | refine .split (fun hc => ?_) fun hc => ?_ | refine EqQ.ints rfl (fun hc => ?_) fun hc => ?_ | refine .go cm ?_ | refine .wn hk ?_ | refine .row ga ?_ | refine .go cq ?_ | refine .wa fun v hv => ?_ | refine .ra fun v hv => ?_ | refine .qa fun v hv => ?_ | refine .len fun v hv => ?_ | refine .all True.intro fun v hv => ?_ | refine Lt.to (by decide) rfl ?_ | (refine .au fun vr vn hvr hvn hvl => ?_; try simp only [List.length_cons, List.length_nil] at hvl) | fail)
    all_goals (try cbv)
    refine hQ _ ⟨rfl, rfl, ?_, rfl, rfl⟩
    have hf : V.freshR rw = true := by rw [h_rw]; exact freshR_iC q
    simp [t20, RV.ev, V.notTup, V.cells, resG, giveC, okGood, V.closed, V.fresh, hf, tab]

theorem c53 (l : List Int) (hl : l.length ≤ 1000000) : CallsV Try.prog 53 [.sl false 1 (l.map iC)] (.own 1 (l.map iC)) [.undef] true := by
  obtain ⟨ra, h_ra⟩ : ∃ r, r = l.map iC := ⟨_, rfl⟩
  have s_ra : V.shR ra = ra := by rw [h_ra]; exact shR_iC l
  have l_ra : ra.length = l.length := by simp [h_ra]
  rw [← h_ra]
  refine callsV_q hD Try.func53 ok53 rfl rfl (by simp only [List.map_cons, List.map_nil, V.sh, V.shL, stL, s_ra]) fun P Q hP hQ => ?_
  repeat' (cbv; first | refine .y ?_ | refine .n ?_ | refine .split (fun hc => ?_) fun hc => ?_ | refine EqQ.ints rfl (fun hc => ?_) fun hc => ?_ | refine .wa fun v hv => ?_ | refine .ra fun v hv => ?_ | refine .qa fun v hv => ?_ | refine .len fun v hv => ?_ | refine .all True.intro fun v hv => ?_ | refine Lt.to (by decide) rfl ?_ | (refine .au fun vr vn hvr hvn hvl => ?_; try simp only [List.length_cons, List.length_nil] at hvl) | fail)
  all_goals (try cbv)
  (subst_vars; refine hQ _ ?_; exact (Leave.own rfl rfl (by simp) (by simp [iC]) (by simp [okRows_app, okRows_cons, okRows_nil, V.fresh, fr_iC, fr_jC, fr_gC, fr_pC, fr_mC, fr_tC, fr_fC, fr_iCf]) rfl))
end Go.Ab

namespace Go.Ab
open Go Go.Proofs
set_option maxRecDepth 100000

abbrev PM := List (Int × List (Int × Int))
def kM (M : PM) : List V := M.map fun e => .int .i64 e.1
def vM (M : PM) : List V := M.map fun e => .own 2 (e.2.map plC)
def addM : PM → Int × Int × Int → PM
  | [], x => [(x.1, [x.2])]
  | e :: M, x => if e.1 = x.1 then (e.1, e.2 ++ [x.2]) :: M else e :: addM M x
def addL (M : PM) (L : List (Int × Int × Int)) : PM := L.foldl addM M
def findM : PM → Int → Option (List (Int × Int))
  | [], _ => none
  | e :: M, g => if e.1 = g then some e.2 else findM M g
def sizeM (M : PM) : Nat := (M.map fun e => e.2.length).sum

theorem find_kv (M : PM) (g : Int) : mfind (.int .i64 g) (kM M) (vM M) = (findM M g).map fun l => .own 2 (l.map plC) := by
  unfold mfind
  induction M with
  | nil => rfl
  | cons e M ih =>
    simp only [kM, vM, List.map_cons, midx, findM] at ih ⊢
    by_cases h : e.1 = g
    · have e1 : (V.int .i64 g).keyIs (.int .i64 e.1) = true := by simp [V.keyIs, h]
      rw [if_pos e1, if_pos h]; rfl
    · have e1 : ¬ (V.int .i64 g).keyIs (.int .i64 e.1) = true := by simp [V.keyIs]; omega
      rw [if_neg e1, if_neg h, ← ih]
      cases midx (.int .i64 g) (M.map fun e => V.int .i64 e.1) <;> simp
theorem size_find {M : PM} {g : Int} {l : List (Int × Int)} (h : findM M g = some l) : l.length ≤ sizeM M := by
  induction M with
  | nil => cases h
  | cons e M ih =>
    simp only [findM] at h
    simp only [sizeM, List.map_cons, List.sum_cons] at ih ⊢
    split at h
    · cases h; omega
    · have := ih h; omega
theorem size_add (M : PM) (x : Int × Int × Int) : sizeM (addM M x) = sizeM M + 1 := by
  induction M with
  | nil => rfl
  | cons e M ih =>
    simp only [addM]
    split
    · simp only [sizeM, List.map_cons, List.sum_cons, List.length_append, List.length_cons, List.length_nil]; omega
    · simp only [sizeM, List.map_cons, List.sum_cons] at ih ⊢; omega
theorem mput_add (M : PM) (g : Int) (p : Int × Int) (l : List (Int × Int)) (hl : (findM M g).getD [] = l) :
    mput (.int .i64 g) (.own 2 (l.map plC ++ [plC p])) (kM M) (vM M) = (kM (addM M (g, p)), vM (addM M (g, p))) := by
  induction M with
  | nil =>
    simp only [findM, Option.getD_none] at hl
    subst hl
    rfl
  | cons e M ih =>
    simp only [findM] at hl
    simp only [mput, kM, vM, List.map_cons, midx, addM] at ih ⊢
    by_cases h : e.1 = g
    · have e1 : (V.int .i64 g).keyIs (.int .i64 e.1) = true := by simp [V.keyIs, h]
      rw [if_pos h] at hl
      simp only [Option.getD_some] at hl
      subst hl
      rw [if_pos e1, if_pos h]
      simp [h]
    · have e1 : ¬ (V.int .i64 g).keyIs (.int .i64 e.1) = true := by simp [V.keyIs]; omega
      rw [if_neg h] at hl
      have ih := ih hl
      rw [if_neg e1, if_neg h]
      cases hm : midx (.int .i64 g) (M.map fun e => V.int .i64 e.1) with
      | none =>
        rw [hm] at ih
        simp only [Prod.mk.injEq] at ih
        simp [ih.1, ih.2]
      | some j =>
        rw [hm] at ih
        simp only [Prod.mk.injEq] at ih
        simp [ih.1, ih.2]

theorem grow_add (M : PM) (g k n : Int) : mgrow g k n (kM M) (vM M) = (kM (addM M (g, k, n)), vM (addM M (g, k, n))) := by
  unfold mgrow
  have h : (rows2 (mfind (.int .i64 g) (kM M) (vM M))).getD [] = ((findM M g).getD []).map plC := by
    rw [find_kv]
    cases findM M g <;> rfl
  rw [h]
  exact mput_add M g (k, n) _ rfl
theorem grow_need {P : Program} {f : FuncId} (hp : PutC P f) (M : PM) (g : Int) (hM : sizeM M ≤ 1000000000000) :
    PutC P f ∧ (∀ y ∈ kM M, (V.int .i64 0).keyLike y = true) ∧ ∃ rows, rows2 (mfind (.int .i64 g) (kM M) (vM M)) = some rows ∧ (rows.length + 1) * 16 ≤ 140737488355328 := by
  refine ⟨hp, fun y hy => ?_, ?_⟩
  · obtain ⟨e, _, rfl⟩ := List.mem_map.1 hy
    rfl
  · rw [find_kv]
    cases h : findM M g with
    | none => exact ⟨[], rfl, by simp⟩
    | some l =>
      have := size_find h
      exact ⟨_, rfl, by simp; omega⟩

def Go' (F M : PM) (L : List (Int × Int × Int)) : Prop := F = addL M L ∧ sizeM M + L.length ≤ 100000000000
theorem Go'.step {F M : PM} {x : Int × Int × Int} {L : List (Int × Int × Int)} (h : Go' F M (x :: L)) : Go' F (addM M x) L := by
  refine ⟨h.1, ?_⟩
  have := h.2
  rw [size_add]; simp only [List.length_cons] at this; omega
theorem size_addL (M : PM) : ∀ L : List (Int × Int × Int), sizeM (addL M L) = sizeM M + L.length := by
  intro L
  induction L generalizing M with
  | nil => rfl
  | cons x L ih => simp only [addL, List.foldl_cons, List.length_cons] at ih ⊢; rw [ih, size_add]; omega
theorem Go'.many {F M : PM} {K L : List (Int × Int × Int)} (h : Go' F M (K ++ L)) : Go' F (addL M K) L := by
  refine ⟨by rw [h.1]; simp [addL], ?_⟩
  have := h.2
  rw [size_addL]; simp only [List.length_append] at this; omega
theorem Go'.put {P : Program} {f : FuncId} (hp : PutC P f) {_F M : PM} {ks vs : List V} (hk : ks = kM M) (hv : vs = vM M) (hs : sizeM M ≤ 1000000000000) (g k n : Int) :
    ∃ M' ks' vs', M' = addM M (g, k, n) ∧ ks' = kM M' ∧ vs' = vM M' ∧ mgrow g k n ks vs = (ks', vs') ∧
      (PutC P f ∧ (∀ y ∈ ks, (V.int .i64 0).keyLike y = true) ∧ ∃ rows, rows2 (mfind (.int .i64 g) ks vs) = some rows ∧ (rows.length + 1) * 16 ≤ 140737488355328) := by
  subst hk hv
  exact ⟨_, _, _, rfl, rfl, rfl, grow_add M g k n, grow_need hp M g hs⟩

def putsP (i : Int) (p : PD) : List (Int × Int × Int) := (if p.nx = 0 then [] else [(p.nx, 1, i + 1)]) ++ (listR p.r).map fun g => (g, 2, i + 1)
def putsPs : Int → List PD → List (Int × Int × Int)
  | _, [] => []
  | i, p :: l => putsP i p ++ putsPs (i + 1) l
def putsK (k n : Int) (l : List Int) : List (Int × Int × Int) := l.map fun g => (g, k, n)
def putsT (l : List TD) : List (Int × Int × Int) := l.map fun t => (t.g, 6, 0)
def putsM1 (i : Int) (m : MD) : List (Int × Int × Int) := if m.g ≠ 0 then (if m.p ≠ 0 then [(m.g, 4, i + 1)] else [(m.g, 7, i + 1)]) else []
def putsMs : Int → List MD → List (Int × Int × Int)
  | _, [] => []
  | i, m :: l => putsM1 i m ++ putsMs (i + 1) l
def putsG1 (i : Int) (g : GD) : List (Int × Int × Int) := if g.st = 5 then [(i + 1, 8, 0)] else []
def putsGs : Int → List GD → List (Int × Int × Int)
  | _, [] => []
  | i, g :: l => putsG1 i g ++ putsGs (i + 1) l
def putsR (s : SD) : List (Int × Int × Int) := putsT s.ts ++ (putsMs 0 s.ms ++ putsGs 0 s.gs)
def putsW (s : SD) : List (Int × Int × Int) := putsK 5 0 s.w0 ++ (putsK 5 1 s.w1 ++ (putsK 5 2 s.w2 ++ (putsK 5 3 s.w3 ++ putsR s)))
def puts (s : SD) : List (Int × Int × Int) := putsPs 0 s.ps ++ (putsK 3 0 s.gl ++ putsW s)
def allM (s : SD) : PM := addL [] (puts s)

theorem putsPs_len : ∀ (l : List PD) (i : Int), (putsPs i l).length ≤ l.length * 9
  | [], _ => by simp [putsPs]
  | p :: l, i => by
    have := putsPs_len l (i + 1)
    have := listR_len p.r
    simp only [putsPs, putsP, List.length_append, List.length_map, List.length_cons]
    split <;> simp <;> omega
theorem putsMs_len : ∀ (l : List MD) (i : Int), (putsMs i l).length ≤ l.length
  | [], _ => by simp [putsMs]
  | p :: l, i => by
    have := putsMs_len l (i + 1)
    simp only [putsMs, putsM1, List.length_append, List.length_cons]
    repeat' split
    all_goals simp
    all_goals omega
theorem putsGs_len : ∀ (l : List GD) (i : Int), (putsGs i l).length ≤ l.length
  | [], _ => by simp [putsGs]
  | p :: l, i => by
    have := putsGs_len l (i + 1)
    simp only [putsGs, putsG1, List.length_append, List.length_cons]
    repeat' split
    all_goals simp
    all_goals omega
theorem puts_len {s : SD} (h : Fit s) : (puts s).length ≤ 20000000 := by
  have := putsPs_len s.ps 0
  have := putsMs_len s.ms 0
  have := putsGs_len s.gs 0
  have := h.ps; have := h.gs; have := h.ms; have := h.gl; have := h.w0; have := h.w1; have := h.w2; have := h.w3; have := h.ts
  unfold puts putsW putsR putsT putsK
  simp only [List.length_append, List.length_map]
  omega
end Go.Ab
