/-
  Small functions of the program and of Go's library: clones, comparisons, numbers that may be.
  The program's programs and timers: may they be?
  The program's timers: may they be?
  The document's answers: has a state little? where Gs stand.
-/
import Derived.Test.YteiafekbmkbldaaK5
import Derived.Test.YteiafekbmkbldaaK8
set_option linter.all false
namespace Go.Ab
open Go Go.Proofs
set_option maxRecDepth 100000

theorem r_CloneInstr (l : List ID) (hl : l.length ≤ 1000000) : CallsV Try.prog 46 [.sl false 2 (l.map jC)] (.own 2 (l.map jC)) [.undef] true := by
  obtain ⟨ra, h_ra⟩ : ∃ r, r = l.map jC := ⟨_, rfl⟩
  have s_ra : V.shR ra = ra := by rw [h_ra]; exact shR_jC l
  have l_ra : ra.length = l.length := by simp [h_ra]
  rw [← h_ra]
  refine callsV_q hD Try.func46 ok46 rfl rfl (by simp only [List.map_cons, List.map_nil, V.sh, V.shL, stL, s_ra]) fun P Q hP hQ => ?_
  repeat' (cbv; first | refine .y ?_ | refine .n ?_ | refine .split (fun hc => ?_) fun hc => ?_ | refine EqQ.ints rfl (fun hc => ?_) fun hc => ?_ | refine IfNil.split (fun hc => ?_) ?_ | refine .wa fun v hv => ?_ | refine .ra fun v hv => ?_ | refine .qa fun v hv => ?_ | refine .len fun v hv => ?_ | refine .all True.intro fun v hv => ?_ | refine Lt.to (by decide) rfl ?_ | (refine .au fun vr vn hvr hvn hvl => ?_; try simp only [List.length_cons, List.length_nil] at hvl) | fail)
  all_goals (try cbv)
  · subst hc
    (refine hQ _ ?_; exact ⟨rfl, rfl, rfl, rfl, rfl⟩)
  · (subst_vars; refine hQ _ ?_; exact (Leave.own rfl rfl (by simp) (by simp [jC]) (by simp [okRows_app, okRows_cons, okRows_nil, V.fresh, fr_iC, fr_jC, fr_gC, fr_pC, fr_mC, fr_tC, fr_fC, fr_iCf]) rfl))
theorem r_CloneG (l : List GD) (hl : l.length ≤ 1000000) : CallsV Try.prog 47 [.sl false 5 (l.map gC)] (.own 5 (l.map gC)) [.undef] true := by
  obtain ⟨ra, h_ra⟩ : ∃ r, r = l.map gC := ⟨_, rfl⟩
  have s_ra : V.shR ra = ra := by rw [h_ra]; exact shR_gC l
  have l_ra : ra.length = l.length := by simp [h_ra]
  rw [← h_ra]
  refine callsV_q hD Try.func47 ok47 rfl rfl (by simp only [List.map_cons, List.map_nil, V.sh, V.shL, stL, s_ra]) fun P Q hP hQ => ?_
  repeat' (cbv; first | refine .y ?_ | refine .n ?_ | refine .split (fun hc => ?_) fun hc => ?_ | refine EqQ.ints rfl (fun hc => ?_) fun hc => ?_ | refine IfNil.split (fun hc => ?_) ?_ | refine .wa fun v hv => ?_ | refine .ra fun v hv => ?_ | refine .qa fun v hv => ?_ | refine .len fun v hv => ?_ | refine .all True.intro fun v hv => ?_ | refine Lt.to (by decide) rfl ?_ | (refine .au fun vr vn hvr hvn hvl => ?_; try simp only [List.length_cons, List.length_nil] at hvl) | fail)
  all_goals (try cbv)
  · subst hc
    (refine hQ _ ?_; exact ⟨rfl, rfl, rfl, rfl, rfl⟩)
  · (subst_vars; refine hQ _ ?_; exact (Leave.own rfl rfl (by simp) (by simp [gC]) (by simp [okRows_app, okRows_cons, okRows_nil, V.fresh, fr_iC, fr_jC, fr_gC, fr_pC, fr_mC, fr_tC, fr_fC, fr_iCf]) rfl))
theorem r_CloneP (l : List PD) (hl : l.length ≤ 1000000) : CallsV Try.prog 48 [.sl false 13 (l.map pC)] (.own 13 (l.map pC)) [.undef] true := by
  obtain ⟨ra, h_ra⟩ : ∃ r, r = l.map pC := ⟨_, rfl⟩
  have s_ra : V.shR ra = ra := by rw [h_ra]; exact shR_pC l
  have l_ra : ra.length = l.length := by simp [h_ra]
  rw [← h_ra]
  refine callsV_q hD Try.func48 ok48 rfl rfl (by simp only [List.map_cons, List.map_nil, V.sh, V.shL, stL, s_ra]) fun P Q hP hQ => ?_
  repeat' (cbv; first | refine .y ?_ | refine .n ?_ | refine .split (fun hc => ?_) fun hc => ?_ | refine EqQ.ints rfl (fun hc => ?_) fun hc => ?_ | refine IfNil.split (fun hc => ?_) ?_ | refine .wa fun v hv => ?_ | refine .ra fun v hv => ?_ | refine .qa fun v hv => ?_ | refine .len fun v hv => ?_ | refine .all True.intro fun v hv => ?_ | refine Lt.to (by decide) rfl ?_ | (refine .au fun vr vn hvr hvn hvl => ?_; try simp only [List.length_cons, List.length_nil] at hvl) | fail)
  all_goals (try cbv)
  · subst hc
    (refine hQ _ ?_; exact ⟨rfl, rfl, rfl, rfl, rfl⟩)
  · (subst_vars; refine hQ _ ?_; exact (Leave.own rfl rfl (by simp) (by simp [pC]) (by simp [okRows_app, okRows_cons, okRows_nil, V.fresh, fr_iC, fr_jC, fr_gC, fr_pC, fr_mC, fr_tC, fr_fC, fr_iCf]) rfl))
theorem r_CloneM (l : List MD) (hl : l.length ≤ 1000000) : CallsV Try.prog 49 [.sl false 2 (l.map mC)] (.own 2 (l.map mC)) [.undef] true := by
  obtain ⟨ra, h_ra⟩ : ∃ r, r = l.map mC := ⟨_, rfl⟩
  have s_ra : V.shR ra = ra := by rw [h_ra]; exact shR_mC l
  have l_ra : ra.length = l.length := by simp [h_ra]
  rw [← h_ra]
  refine callsV_q hD Try.func49 ok49 rfl rfl (by simp only [List.map_cons, List.map_nil, V.sh, V.shL, stL, s_ra]) fun P Q hP hQ => ?_
  repeat' (cbv; first | refine .y ?_ | refine .n ?_ | refine .split (fun hc => ?_) fun hc => ?_ | refine EqQ.ints rfl (fun hc => ?_) fun hc => ?_ | refine IfNil.split (fun hc => ?_) ?_ | refine .wa fun v hv => ?_ | refine .ra fun v hv => ?_ | refine .qa fun v hv => ?_ | refine .len fun v hv => ?_ | refine .all True.intro fun v hv => ?_ | refine Lt.to (by decide) rfl ?_ | (refine .au fun vr vn hvr hvn hvl => ?_; try simp only [List.length_cons, List.length_nil] at hvl) | fail)
  all_goals (try cbv)
  · subst hc
    (refine hQ _ ?_; exact ⟨rfl, rfl, rfl, rfl, rfl⟩)
  · (subst_vars; refine hQ _ ?_; exact (Leave.own rfl rfl (by simp) (by simp [mC]) (by simp [okRows_app, okRows_cons, okRows_nil, V.fresh, fr_iC, fr_jC, fr_gC, fr_pC, fr_mC, fr_tC, fr_fC, fr_iCf]) rfl))
theorem r_CloneInt (l : List Int) (hl : l.length ≤ 1000000) : CallsV Try.prog 50 [.sl false 1 (l.map iC)] (.own 1 (l.map iC)) [.undef] true := by
  obtain ⟨ra, h_ra⟩ : ∃ r, r = l.map iC := ⟨_, rfl⟩
  have s_ra : V.shR ra = ra := by rw [h_ra]; exact shR_iC l
  have l_ra : ra.length = l.length := by simp [h_ra]
  rw [← h_ra]
  refine callsV_q hD Try.func50 ok50 rfl rfl (by simp only [List.map_cons, List.map_nil, V.sh, V.shL, stL, s_ra]) fun P Q hP hQ => ?_
  repeat' (cbv; first | refine .y ?_ | refine .n ?_ | refine .split (fun hc => ?_) fun hc => ?_ | refine EqQ.ints rfl (fun hc => ?_) fun hc => ?_ | refine IfNil.split (fun hc => ?_) ?_ | refine .wa fun v hv => ?_ | refine .ra fun v hv => ?_ | refine .qa fun v hv => ?_ | refine .len fun v hv => ?_ | refine .all True.intro fun v hv => ?_ | refine Lt.to (by decide) rfl ?_ | (refine .au fun vr vn hvr hvn hvl => ?_; try simp only [List.length_cons, List.length_nil] at hvl) | fail)
  all_goals (try cbv)
  · subst hc
    (refine hQ _ ?_; exact ⟨rfl, rfl, rfl, rfl, rfl⟩)
  · (subst_vars; refine hQ _ ?_; exact (Leave.own rfl rfl (by simp) (by simp [iC]) (by simp [okRows_app, okRows_cons, okRows_nil, V.fresh, fr_iC, fr_jC, fr_gC, fr_pC, fr_mC, fr_tC, fr_fC, fr_iCf]) rfl))
theorem r_CloneT (l : List TD) (hl : l.length ≤ 1000000) : CallsV Try.prog 51 [.sl false 2 (l.map tC)] (.own 2 (l.map tC)) [.undef] true := by
  obtain ⟨ra, h_ra⟩ : ∃ r, r = l.map tC := ⟨_, rfl⟩
  have s_ra : V.shR ra = ra := by rw [h_ra]; exact shR_tC l
  have l_ra : ra.length = l.length := by simp [h_ra]
  rw [← h_ra]
  refine callsV_q hD Try.func51 ok51 rfl rfl (by simp only [List.map_cons, List.map_nil, V.sh, V.shL, stL, s_ra]) fun P Q hP hQ => ?_
  repeat' (cbv; first | refine .y ?_ | refine .n ?_ | refine .split (fun hc => ?_) fun hc => ?_ | refine EqQ.ints rfl (fun hc => ?_) fun hc => ?_ | refine IfNil.split (fun hc => ?_) ?_ | refine .wa fun v hv => ?_ | refine .ra fun v hv => ?_ | refine .qa fun v hv => ?_ | refine .len fun v hv => ?_ | refine .all True.intro fun v hv => ?_ | refine Lt.to (by decide) rfl ?_ | (refine .au fun vr vn hvr hvn hvl => ?_; try simp only [List.length_cons, List.length_nil] at hvl) | fail)
  all_goals (try cbv)
  · subst hc
    (refine hQ _ ?_; exact ⟨rfl, rfl, rfl, rfl, rfl⟩)
  · (subst_vars; refine hQ _ ?_; exact (Leave.own rfl rfl (by simp) (by simp [tC]) (by simp [okRows_app, okRows_cons, okRows_nil, V.fresh, fr_iC, fr_jC, fr_gC, fr_pC, fr_mC, fr_tC, fr_fC, fr_iCf]) rfl))

theorem r_bad (n : Int) (b : Bool) (hb : b = decide (n < 0 ∨ 2305843009213693952 ≤ n)) : CallsV Try.prog 69 [.int .i64 n] (.bool b) [.undef] true := by
  refine callsV_q hD Try.func69 ok69 rfl rfl rfl fun P Q hP hQ => ?_
  repeat' (cbv; first | refine .y ?_ | refine .n ?_ | refine .split (fun hc => ?_) fun hc => ?_ | refine EqQ.ints rfl (fun hc => ?_) fun hc => ?_ | refine .wa fun v hv => ?_ | refine .ra fun v hv => ?_ | refine .qa fun v hv => ?_ | refine .len fun v hv => ?_ | refine .all True.intro fun v hv => ?_ | refine Lt.to (by decide) rfl ?_ | (refine .au fun vr vn hvr hvn hvl => ?_; try simp only [List.length_cons, List.length_nil] at hvl) | fail)
  all_goals (try cbv)
  · have hbe : b = true := by rw [hb]; exact decide_eq_true (by omega)
    subst hbe; refine hQ _ ?_; exact ⟨rfl, rfl, rfl, rfl, rfl⟩
  · have hbe : b = true := by rw [hb]; exact decide_eq_true (by omega)
    subst hbe; refine hQ _ ?_; exact ⟨rfl, rfl, rfl, rfl, rfl⟩
  · have hbe : b = false := by rw [hb]; exact decide_eq_false (by omega)
    subst hbe; refine hQ _ ?_; exact ⟨rfl, rfl, rfl, rfl, rfl⟩
def badAt : Int → List Int → Int
  | _, [] => -1
  | i, x :: l => if x < 0 ∨ 2305843009213693952 ≤ x then i else badAt (i + 1) l
theorem can_bad : callable Try.prog 69 = true := by kernel_rfl
theorem r_Index (l : List Int) (hl : l.length ≤ 1000000) (z : Int) (hz : z = badAt 0 l) : CallsV Try.prog 73 [.sl false 1 (l.map iC), .fn 69 [] []] (.int .i64 z) [.undef, .undef] true := by
  obtain ⟨ra, h_ra⟩ : ∃ r, r = l.map iC := ⟨_, rfl⟩
  have s_ra : V.shR ra = ra := by rw [h_ra]; exact shR_iC l
  have l_ra : ra.length = l.length := by simp [h_ra]
  rw [← h_ra]
  refine callsV_q hD Try.func73 ok73 rfl rfl (by simp only [List.map_cons, List.map_nil, V.sh, V.shL, stL, s_ra]) fun P Q hP hQ => ?_
  obtain ⟨m, hm⟩ : ∃ n : Int, 0 ≤ n ∧ n.toNat = ra.length := ⟨ra.length, by omega, by omega⟩
  repeat' (cbv; first | refine .y ?_ | refine .n ?_ | refine .split (fun hc => ?_) fun hc => ?_ | refine EqQ.ints rfl (fun hc => ?_) fun hc => ?_ | refine Lt.to True.intro (show (ra.length : Int) = m by omega) ?_ | refine .wa fun v hv => ?_ | refine .ra fun v hv => ?_ | refine .qa fun v hv => ?_ | refine .len fun v hv => ?_ | refine .all True.intro fun v hv => ?_ | refine Lt.to (by decide) rfl ?_ | (refine .au fun vr vn hvr hvn hvl => ?_; try simp only [List.length_cons, List.length_nil] at hvl) | fail)
  all_goals (try cbv)
  refine LoopQ.to (ι := Int) (fun i => ⟨tab .undef [(0, .sl false 1 ra), (1, .fn 69 [] []), (7, .int .i64 m), (8, .int .i64 i)], tab .dead []⟩)
    (fun i => 0 ≤ i ∧ i.toNat ≤ l.length ∧ z = badAt i (l.drop i.toNat)) (fun i => l.length - i.toNat) 0 ⟨by omega, by omega, hz⟩ rfl fun i ⟨i0, i1, hi⟩ A hA => ?_
  rcases drop_cases i1 with ⟨e, hd⟩ | ⟨hlt, x, hd, hx⟩
  · rw [hd] at hi
    have hz1 : z = -1 := hi
    clear hi
    subst hz1
    repeat' (cbv; first | refine .y ?_ | refine .n ?_ | refine .split (fun hc => ?_) fun hc => ?_ | refine EqQ.ints rfl (fun hc => ?_) fun hc => ?_ | refine .wa fun v hv => ?_ | refine .ra fun v hv => ?_ | refine .qa fun v hv => ?_ | refine .len fun v hv => ?_ | refine .all True.intro fun v hv => ?_ | refine Lt.to (by decide) rfl ?_ | (refine .au fun vr vn hvr hvn hvl => ?_; try simp only [List.length_cons, List.length_nil] at hvl) | fail)
    all_goals (try cbv)
    (refine hQ _ ?_; exact ⟨rfl, rfl, rfl, rfl, rfl⟩)
  · rw [hd, badAt] at hi
    have ga : ra.getD i.toNat [] = [.int .i64 x] := getD_rows h_ra hx
    obtain ⟨b, hb⟩ : ∃ b, b = decide (x < 0 ∨ 2305843009213693952 ≤ x) := ⟨_, rfl⟩
    have cb := r_bad x b hb
    cases b with
    | true =>
      rw [if_pos (by simpa using hb)] at hi
      subst hi
      try rw [← hP] at cb
      repeat' (cbv; first | refine .y ?_ | refine .n ?_ | refine .split (fun hc => ?_) fun hc => ?_ | refine EqQ.ints rfl (fun hc => ?_) fun hc => ?_ | refine .row ga ?_ | refine CanQ.to (hP ▸ can_bad) ?_ | refine .go cb ?_ | refine .wa fun v hv => ?_ | refine .ra fun v hv => ?_ | refine .qa fun v hv => ?_ | refine .len fun v hv => ?_ | refine .all True.intro fun v hv => ?_ | refine Lt.to (by decide) rfl ?_ | (refine .au fun vr vn hvr hvn hvl => ?_; try simp only [List.length_cons, List.length_nil] at hvl) | fail)
      all_goals (try cbv)
      (refine hQ _ ?_; exact ⟨rfl, rfl, rfl, rfl, rfl⟩)
    | false =>
      rw [if_neg (by simpa using hb)] at hi
      try rw [← hP] at cb
      repeat' (cbv; first | refine .y ?_ | refine .n ?_ | refine .split (fun hc => ?_) fun hc => ?_ | refine EqQ.ints rfl (fun hc => ?_) fun hc => ?_ | refine .row ga ?_ | refine CanQ.to (hP ▸ can_bad) ?_ | refine .go cb ?_ | refine .wa fun v hv => ?_ | refine .ra fun v hv => ?_ | refine .qa fun v hv => ?_ | refine .len fun v hv => ?_ | refine .all True.intro fun v hv => ?_ | refine Lt.to (by decide) rfl ?_ | (refine .au fun vr vn hvr hvn hvl => ?_; try simp only [List.length_cons, List.length_nil] at hvl) | fail)
      all_goals (try cbv)
      exact hA v _ ⟨by omega, by omega, by rw [hi, show v.toNat = i.toNat + 1 by omega, hv]⟩ (by omega) rfl
theorem r_Contains (l : List Int) (hl : l.length ≤ 1000000) (z : Int) (hz : z = badAt 0 l) (b : Bool) (hb : b = decide (0 ≤ z)) : CallsV Try.prog 68 [.sl false 1 (l.map iC), .fn 69 [] []] (.bool b) [.undef, .undef] true := by
  have ci := r_Index l hl z hz
  obtain ⟨ra, h_ra⟩ : ∃ r, r = l.map iC := ⟨_, rfl⟩
  have s_ra : V.shR ra = ra := by rw [h_ra]; exact shR_iC l
  have l_ra : ra.length = l.length := by simp [h_ra]
  rw [← h_ra] at ci ⊢
  refine callsV_q hD Try.func68 ok68 rfl rfl (by simp only [List.map_cons, List.map_nil, V.sh, V.shL, stL, s_ra]) fun P Q hP hQ => ?_
  try rw [← hP] at ci
  repeat' (cbv; first | refine .y ?_ | refine .n ?_ | refine .split (fun hc => ?_) fun hc => ?_ | refine EqQ.ints rfl (fun hc => ?_) fun hc => ?_ | refine .go ci ?_ | refine .go ci ?_ | refine .wa fun v hv => ?_ | refine .ra fun v hv => ?_ | refine .qa fun v hv => ?_ | refine .len fun v hv => ?_ | refine .all True.intro fun v hv => ?_ | refine Lt.to (by decide) rfl ?_ | (refine .au fun vr vn hvr hvn hvl => ?_; try simp only [List.length_cons, List.length_nil] at hvl) | fail)
  all_goals (try cbv)
  · have hbe : b = true := by rw [hb]; exact decide_eq_true (by omega)
    subst hbe; refine hQ _ ?_; exact ⟨rfl, rfl, rfl, rfl, rfl⟩
  · have hbe : b = false := by rw [hb]; exact decide_eq_false (by omega)
    subst hbe; refine hQ _ ?_; exact ⟨rfl, rfl, rfl, rfl, rfl⟩
theorem r_fit (n : Int) (b : Bool) (hb : b = decide (0 ≤ n ∧ n < 2305843009213693952)) : CallsV Try.prog 55 [.sl false 1 [[.int .i64 n]]] (.bool b) [.undef] true := by
  obtain ⟨c, hc⟩ : ∃ c, c = !b := ⟨_, rfl⟩
  have cc := r_Contains [n] (by simp) _ rfl c (by
    rw [hc, hb, badAt, badAt]
    by_cases h : n < 0 ∨ 2305843009213693952 ≤ n
    · rw [if_pos h, decide_eq_false (by omega)]; rfl
    · rw [if_neg h, decide_eq_true (by omega)]; rfl)
  simp only [List.map_cons, List.map_nil, iC] at cc
  clear hb
  refine callsV_q hD Try.func55 ok55 rfl rfl rfl fun P Q hP hQ => ?_
  cases b
  all_goals
    subst hc
    try rw [← hP] at cc
    repeat' (cbv; first | refine .y ?_ | refine .n ?_ | refine .split (fun hc => ?_) fun hc => ?_ | refine EqQ.ints rfl (fun hc => ?_) fun hc => ?_ | refine .go cc ?_ | refine .wa fun v hv => ?_ | refine .ra fun v hv => ?_ | refine .qa fun v hv => ?_ | refine .len fun v hv => ?_ | refine .all True.intro fun v hv => ?_ | refine Lt.to (by decide) rfl ?_ | (refine .au fun vr vn hvr hvn hvl => ?_; try simp only [List.length_cons, List.length_nil] at hvl) | fail)
    all_goals (try cbv)
    (refine hQ _ ?_; exact ⟨rfl, rfl, rfl, rfl, rfl⟩)

theorem r_nan (n : Int) : CallsV Try.prog 76 [.int .i64 n] (.bool false) [.undef] true := by
  refine callsV_q hD Try.func76 ok76 rfl rfl rfl fun P Q hP hQ => ?_
  repeat' (cbv; first | refine .y ?_ | refine .n ?_ | refine .split (fun hc => ?_) fun hc => ?_ | refine EqQ.ints rfl (fun hc => ?_) fun hc => ?_ | refine .wa fun v hv => ?_ | refine .ra fun v hv => ?_ | refine .qa fun v hv => ?_ | refine .len fun v hv => ?_ | refine .all True.intro fun v hv => ?_ | refine Lt.to (by decide) rfl ?_ | (refine .au fun vr vn hvr hvn hvl => ?_; try simp only [List.length_cons, List.length_nil] at hvl) | fail)
  all_goals (try cbv)
  (refine hQ _ ?_; exact ⟨rfl, rfl, rfl, rfl, rfl⟩)
def cmpI (a b : Int) : Int := if a < b then -1 else if b < a then 1 else 0
theorem r_cmp (a b z : Int) (hz : z = cmpI a b) : CallsV Try.prog 75 [.int .i64 a, .int .i64 b] (.int .i64 z) [.undef, .undef] true := by
  have n1 := r_nan a
  have n2 := r_nan b
  unfold cmpI at hz
  refine callsV_q hD Try.func75 ok75 rfl rfl rfl fun P Q hP hQ => ?_
  try rw [← hP] at n1
  try rw [← hP] at n2
  repeat' (cbv; first | refine .y ?_ | refine .n ?_ | refine .split (fun hc => ?_) fun hc => ?_ | refine EqQ.ints rfl (fun hc => ?_) fun hc => ?_ | refine .go n1 ?_ | refine .go n2 ?_ | refine .wa fun v hv => ?_ | refine .ra fun v hv => ?_ | refine .qa fun v hv => ?_ | refine .len fun v hv => ?_ | refine .all True.intro fun v hv => ?_ | refine Lt.to (by decide) rfl ?_ | (refine .au fun vr vn hvr hvn hvl => ?_; try simp only [List.length_cons, List.length_nil] at hvl) | fail)
  all_goals (try cbv)
  · rw [if_pos (by omega)] at hz; subst hz; (refine hQ _ ?_; exact ⟨rfl, rfl, rfl, rfl, rfl⟩)
  · rw [if_neg (by omega), if_pos (by omega)] at hz; subst hz; (refine hQ _ ?_; exact ⟨rfl, rfl, rfl, rfl, rfl⟩)
  · rw [if_neg (by omega), if_neg (by omega)] at hz; subst hz; (refine hQ _ ?_; exact ⟨rfl, rfl, rfl, rfl, rfl⟩)
theorem r_Or (a b z : Int) (hz : z = if a ≠ 0 then a else b) : CallsV Try.prog 74 [.sl false 1 [[.int .i64 a], [.int .i64 b]]] (.int .i64 z) [.undef] true := by
  refine callsV_q hD Try.func74 ok74 rfl rfl rfl fun P Q hP hQ => ?_
  repeat' (cbv; first | refine .y ?_ | refine .n ?_ | refine .split (fun hc => ?_) fun hc => ?_ | refine EqQ.ints rfl (fun hc => ?_) fun hc => ?_ | refine Lt.to True.intro (rfl : ((2 : Nat) : Int) = 2) ?_ | refine .wa fun v hv => ?_ | refine .ra fun v hv => ?_ | refine .qa fun v hv => ?_ | refine .len fun v hv => ?_ | refine .all True.intro fun v hv => ?_ | refine Lt.to (by decide) rfl ?_ | (refine .au fun vr vn hvr hvn hvl => ?_; try simp only [List.length_cons, List.length_nil] at hvl) | fail)
  all_goals (try cbv)
  refine LoopQ.to (ι := Int) (fun i => ⟨tab .undef [(3, .int .i64 0), (6, .sl false 1 [[.int .i64 a], [.int .i64 b]]), (7, .int .i64 2), (8, .int .i64 i)], tab .dead []⟩)
    (fun i => (i = 0) ∨ (i = 1 ∧ a = 0) ∨ (i = 2 ∧ a = 0 ∧ b = 0)) (fun i => (2 - i).toNat) 0 (.inl rfl) rfl fun i hi A hA => ?_
  rcases hi with rfl | ⟨rfl, h1⟩ | ⟨rfl, h1, h2⟩
  · repeat' (cbv; first | refine .y ?_ | refine .n ?_ | refine .split (fun hc => ?_) fun hc => ?_ | refine EqQ.ints rfl (fun hc => ?_) fun hc => ?_ | refine Lt.to ⟨rfl, by omega, by simp⟩ (v := [.int .i64 a]) rfl ?_ | refine .wa fun v hv => ?_ | refine .ra fun v hv => ?_ | refine .qa fun v hv => ?_ | refine .len fun v hv => ?_ | refine .all True.intro fun v hv => ?_ | refine Lt.to (by decide) rfl ?_ | (refine .au fun vr vn hvr hvn hvl => ?_; try simp only [List.length_cons, List.length_nil] at hvl) | fail)
    all_goals (try cbv)
    all_goals first
      | (exact hA v _ (.inr (.inl ⟨hv, by omega⟩)) (by omega) rfl)
      | (rw [if_pos (by omega)] at hz; subst hz; (refine hQ _ ?_; exact ⟨rfl, rfl, rfl, rfl, rfl⟩))
  · repeat' (cbv; first | refine .y ?_ | refine .n ?_ | refine .split (fun hc => ?_) fun hc => ?_ | refine EqQ.ints rfl (fun hc => ?_) fun hc => ?_ | refine Lt.to ⟨rfl, by omega, by simp⟩ (v := [.int .i64 b]) rfl ?_ | refine .wa fun v hv => ?_ | refine .ra fun v hv => ?_ | refine .qa fun v hv => ?_ | refine .len fun v hv => ?_ | refine .all True.intro fun v hv => ?_ | refine Lt.to (by decide) rfl ?_ | (refine .au fun vr vn hvr hvn hvl => ?_; try simp only [List.length_cons, List.length_nil] at hvl) | fail)
    all_goals (try cbv)
    all_goals first
      | (exact hA v _ (.inr (.inr ⟨hv, h1, by omega⟩)) (by omega) rfl)
      | (rw [if_neg (by omega)] at hz; subst hz; (refine hQ _ ?_; exact ⟨rfl, rfl, rfl, rfl, rfl⟩))
  · repeat' (cbv; first | refine .y ?_ | refine .n ?_ | refine .split (fun hc => ?_) fun hc => ?_ | refine EqQ.ints rfl (fun hc => ?_) fun hc => ?_ | refine .wa fun v hv => ?_ | refine .ra fun v hv => ?_ | refine .qa fun v hv => ?_ | refine .len fun v hv => ?_ | refine .all True.intro fun v hv => ?_ | refine Lt.to (by decide) rfl ?_ | (refine .au fun vr vn hvr hvn hvl => ?_; try simp only [List.length_cons, List.length_nil] at hvl) | fail)
    all_goals (try cbv)
    rw [if_neg (by omega), h2] at hz; subst hz; (refine hQ _ ?_; exact ⟨rfl, rfl, rfl, rfl, rfl⟩)
def cmpT (x y : TD) : Int := if cmpI x.t y.t ≠ 0 then cmpI x.t y.t else cmpI x.g y.g
theorem r_compare (x y : TD) (z : Int) (hz : z = cmpT x y) : CallsV Try.prog 70 [.agg (tC x), .agg (tC y)] (.int .i64 z) [.undef, .undef] true := by
  obtain ⟨xt, xg⟩ := x
  obtain ⟨yt, yg⟩ := y
  unfold cmpT at hz
  dsimp only at hz
  obtain ⟨a, ha⟩ : ∃ a, a = cmpI xt yt := ⟨_, rfl⟩
  obtain ⟨b, hb⟩ : ∃ b, b = cmpI xg yg := ⟨_, rfl⟩
  rw [← ha, ← hb] at hz
  have ca := r_cmp xt yt a ha
  have cb := r_cmp xg yg b hb
  have co := r_Or a b z hz
  clear hz ha hb
  refine callsV_q hD Try.func70 ok70 rfl rfl rfl fun P Q hP hQ => ?_
  try rw [← hP] at ca
  try rw [← hP] at cb
  try rw [← hP] at co
  repeat' (cbv; first | refine .y ?_ | refine .n ?_ | refine .split (fun hc => ?_) fun hc => ?_ | refine EqQ.ints rfl (fun hc => ?_) fun hc => ?_ | refine .go ca ?_ | refine .go cb ?_ | refine .go co ?_ | refine .wa fun v hv => ?_ | refine .ra fun v hv => ?_ | refine .qa fun v hv => ?_ | refine .len fun v hv => ?_ | refine .all True.intro fun v hv => ?_ | refine Lt.to (by decide) rfl ?_ | (refine .au fun vr vn hvr hvn hvl => ?_; try simp only [List.length_cons, List.length_nil] at hvl) | fail)
  all_goals (try cbv)
  (refine hQ _ ?_; exact ⟨rfl, rfl, rfl, rfl, rfl⟩)
end Go.Ab

namespace Go.Ab
open Go Go.Proofs
set_option maxRecDepth 100000

theorem r_sh1 (p : List (List ID)) (hp : p.length ≤ 1000000) (z : Int) (hz : z = (p.length : Int) - 1) : CallsV Try.prog 64 [.sl false 1 (p.map fC)] (.int .i64 z) [.undef] true := by
  obtain ⟨n, hn⟩ : ∃ n : Int, 0 ≤ n ∧ n.toNat = p.length := ⟨p.length, by omega, by omega⟩
  rw [show (p.length : Int) = n by omega] at hz
  obtain ⟨ra, h_ra⟩ : ∃ r, r = p.map fC := ⟨_, rfl⟩
  have s_ra : V.shR ra = ra := by rw [h_ra]; exact shR_fC p
  have l_ra : ra.length = p.length := by simp [h_ra]
  rw [← h_ra]
  refine callsV_q hD Try.func64 ok64 rfl rfl (by simp only [List.map_cons, List.map_nil, V.sh, V.shL, stL, s_ra]) fun P Q hP hQ => ?_
  repeat' (cbv; first | refine .y ?_ | refine .n ?_ | refine .split (fun hc => ?_) fun hc => ?_ | refine EqQ.ints rfl (fun hc => ?_) fun hc => ?_ | refine .wa fun v hv => ?_ | refine .ra fun v hv => ?_ | refine .qa fun v hv => ?_ | refine .len fun v hv => ?_ | refine .all True.intro fun v hv => ?_ | refine Lt.to (by decide) rfl ?_ | (refine .au fun vr vn hvr hvn hvl => ?_; try simp only [List.length_cons, List.length_nil] at hvl) | fail)
  all_goals (try cbv)
  have hbe : z = v := by omega
  subst hbe
  (refine hQ _ ?_; exact ⟨rfl, rfl, rfl, rfl, rfl⟩)
theorem r_sh2 (p : List (List ID)) : CallsV Try.prog 65 [.sl false 1 (p.map fC)] (.int .i64 3) [.undef] true := by
  obtain ⟨ra, h_ra⟩ : ∃ r, r = p.map fC := ⟨_, rfl⟩
  have s_ra : V.shR ra = ra := by rw [h_ra]; exact shR_fC p
  have l_ra : ra.length = p.length := by simp [h_ra]
  rw [← h_ra]
  refine callsV_q hD Try.func65 ok65 rfl rfl (by simp only [List.map_cons, List.map_nil, V.sh, V.shL, stL, s_ra]) fun P Q hP hQ => ?_
  repeat' (cbv; first | refine .y ?_ | refine .n ?_ | refine .split (fun hc => ?_) fun hc => ?_ | refine EqQ.ints rfl (fun hc => ?_) fun hc => ?_ | refine .wa fun v hv => ?_ | refine .ra fun v hv => ?_ | refine .qa fun v hv => ?_ | refine .len fun v hv => ?_ | refine .all True.intro fun v hv => ?_ | refine Lt.to (by decide) rfl ?_ | (refine .au fun vr vn hvr hvn hvl => ?_; try simp only [List.length_cons, List.length_nil] at hvl) | fail)
  all_goals (try cbv)
  (refine hQ _ ?_; exact ⟨rfl, rfl, rfl, rfl, rfl⟩)
theorem r_sh3 (p : List (List ID)) : CallsV Try.prog 66 [.sl false 1 (p.map fC)] (.int .i64 1000) [.undef] true := by
  obtain ⟨ra, h_ra⟩ : ∃ r, r = p.map fC := ⟨_, rfl⟩
  have s_ra : V.shR ra = ra := by rw [h_ra]; exact shR_fC p
  have l_ra : ra.length = p.length := by simp [h_ra]
  rw [← h_ra]
  refine callsV_q hD Try.func66 ok66 rfl rfl (by simp only [List.map_cons, List.map_nil, V.sh, V.shL, stL, s_ra]) fun P Q hP hQ => ?_
  repeat' (cbv; first | refine .y ?_ | refine .n ?_ | refine .split (fun hc => ?_) fun hc => ?_ | refine EqQ.ints rfl (fun hc => ?_) fun hc => ?_ | refine .wa fun v hv => ?_ | refine .ra fun v hv => ?_ | refine .qa fun v hv => ?_ | refine .len fun v hv => ?_ | refine .all True.intro fun v hv => ?_ | refine Lt.to (by decide) rfl ?_ | (refine .au fun vr vn hvr hvn hvl => ?_; try simp only [List.length_cons, List.length_nil] at hvl) | fail)
  all_goals (try cbv)
  (refine hQ _ ?_; exact ⟨rfl, rfl, rfl, rfl, rfl⟩)
theorem r_sh4 (p : List (List ID)) : CallsV Try.prog 67 [.sl false 1 (p.map fC)] (.int .i64 0) [.undef] true := by
  obtain ⟨ra, h_ra⟩ : ∃ r, r = p.map fC := ⟨_, rfl⟩
  have s_ra : V.shR ra = ra := by rw [h_ra]; exact shR_fC p
  have l_ra : ra.length = p.length := by simp [h_ra]
  rw [← h_ra]
  refine callsV_q hD Try.func67 ok67 rfl rfl (by simp only [List.map_cons, List.map_nil, V.sh, V.shL, stL, s_ra]) fun P Q hP hQ => ?_
  repeat' (cbv; first | refine .y ?_ | refine .n ?_ | refine .split (fun hc => ?_) fun hc => ?_ | refine EqQ.ints rfl (fun hc => ?_) fun hc => ?_ | refine .wa fun v hv => ?_ | refine .ra fun v hv => ?_ | refine .qa fun v hv => ?_ | refine .len fun v hv => ?_ | refine .all True.intro fun v hv => ?_ | refine Lt.to (by decide) rfl ?_ | (refine .au fun vr vn hvr hvn hvl => ?_; try simp only [List.length_cons, List.length_nil] at hvl) | fail)
  all_goals (try cbv)
  (refine hQ _ ?_; exact ⟨rfl, rfl, rfl, rfl, rfl⟩)
def shapesL : List V :=
  [.str ⟨#[119, 111, 114, 107]⟩, .bool false, .fn 67 [] [], .str ⟨#[115, 112, 97, 119, 110]⟩, .bool true, .fn 64 [] [], .str ⟨#[121, 105, 101, 108, 100]⟩, .bool false, .fn 67 [] [],
    .str ⟨#[97, 99, 113, 117, 105, 114, 101]⟩, .bool true, .fn 65 [] [], .str ⟨#[114, 101, 108, 101, 97, 115, 101]⟩, .bool true, .fn 65 [] [], .str ⟨#[115, 121, 115]⟩, .bool false, .fn 67 [] [],
    .str ⟨#[115, 108, 101, 101, 112]⟩, .bool true, .fn 66 [] []]
theorem r_shapes : CallsV Try.prog 54 [] (.agg shapesL) [] true := by
  refine callsV_q hD Try.func54 ok54 rfl rfl rfl fun P Q hP hQ => ?_
  repeat' (cbv; first | refine .y ?_ | refine .n ?_ | refine .split (fun hc => ?_) fun hc => ?_ | refine EqQ.ints rfl (fun hc => ?_) fun hc => ?_ | refine .wa fun v hv => ?_ | refine .ra fun v hv => ?_ | refine .qa fun v hv => ?_ | refine .len fun v hv => ?_ | refine .all True.intro fun v hv => ?_ | refine Lt.to (by decide) rfl ?_ | (refine .au fun vr vn hvr hvn hvl => ?_; try simp only [List.length_cons, List.length_nil] at hvl) | fail)
  all_goals (try cbv)
  (refine hQ _ ?_; exact ⟨rfl, rfl, rfl, rfl, rfl⟩)
theorem can_sh1 : callable Try.prog 64 = true := by kernel_rfl
theorem can_sh2 : callable Try.prog 65 = true := by kernel_rfl
theorem can_sh3 : callable Try.prog 66 = true := by kernel_rfl
theorem can_sh4 : callable Try.prog 67 = true := by kernel_rfl

set_option maxHeartbeats 8000000 in
theorem c26 (p : List (List ID)) (hp : p.length ≤ 1000000) (hf : ∀ f ∈ p, f.length ≤ 1000000) (b : Bool) (hb : b = mayP p) : CallsV Try.prog 26 [.sl false 1 (p.map fC)] (.bool b) [.undef] true := by
  obtain ⟨n, hn⟩ : ∃ n : Int, 0 ≤ n ∧ n.toNat = p.length := ⟨p.length, by omega, by omega⟩
  have hnc : (p.length : Int) = n := by omega
  obtain ⟨z, hz⟩ : ∃ z : Int, z = n - 1 := ⟨_, rfl⟩
  have k1 := r_sh1 p hp z (by rw [hnc, hz])
  have k2 := r_sh2 p
  have k3 := r_sh3 p
  have k4 := r_sh4 p
  obtain ⟨ra, h_ra⟩ : ∃ r, r = p.map fC := ⟨_, rfl⟩
  have s_ra : V.shR ra = ra := by rw [h_ra]; exact shR_fC p
  have l_ra : ra.length = p.length := by simp [h_ra]
  rw [← h_ra] at k1 k2 k3 k4 ⊢
  refine callsV_q hD Try.func26 ok26 rfl rfl (by simp only [List.map_cons, List.map_nil, V.sh, V.shL, stL, s_ra]) fun P Q hP hQ => ?_
  unfold mayP at hb
  rw [hnc] at hb
  have hmz : 0 ≤ n ∧ n.toNat = ra.length := ⟨hn.1, by omega⟩
  by_cases hl : 1 ≤ p.length ∧ p.length ≤ 8
  · rw [decide_eq_true hl, Bool.true_and] at hb
    repeat' (cbv; first | refine .y ?_ | refine .n ?_ | refine .split (fun hc => ?_) fun hc => ?_ | refine EqQ.ints rfl (fun hc => ?_) fun hc => ?_ | refine .go (hP ▸ r_shapes) ?_ | refine Lt.to True.intro (show (ra.length : Int) = n by omega) ?_ | refine .wa fun v hv => ?_ | refine .ra fun v hv => ?_ | refine .qa fun v hv => ?_ | refine .len fun v hv => ?_ | refine .all True.intro fun v hv => ?_ | refine Lt.to (by decide) rfl ?_ | (refine .au fun vr vn hvr hvn hvl => ?_; try simp only [List.length_cons, List.length_nil] at hvl) | fail)
    all_goals (try cbv)
    refine LoopQ.to (ι := Int) (fun i => ⟨tab .undef [(0, .sl false 1 ra), (3, .ptr 100 0), (17, .sl false 1 ra), (18, .int .i64 n), (19, .int .i64 i)], tab .dead [(100, .box shapesL)]⟩)
      (fun i => 0 ≤ i ∧ i.toNat ≤ p.length ∧ b = (p.drop i.toNat).all fun f => decide (f.length ≤ 20) && f.all (okI n)) (fun i => p.length - i.toNat) 0 ⟨by omega, by omega, hb⟩ rfl fun i ⟨i0, i1, hi⟩ A hA => ?_
    clear hb
    rcases drop_cases i1 with ⟨e, hd⟩ | ⟨hlt, f, hd, hx⟩
    · rw [hd] at hi
      repeat' (cbv; first | refine .y ?_ | refine .n ?_ | refine .split (fun hc => ?_) fun hc => ?_ | refine EqQ.ints rfl (fun hc => ?_) fun hc => ?_ | refine .wa fun v hv => ?_ | refine .ra fun v hv => ?_ | refine .qa fun v hv => ?_ | refine .len fun v hv => ?_ | refine .all True.intro fun v hv => ?_ | refine Lt.to (by decide) rfl ?_ | (refine .au fun vr vn hvr hvn hvl => ?_; try simp only [List.length_cons, List.length_nil] at hvl) | fail)
      all_goals (try cbv)
      have hbe : b = true := by rw [hi]; rfl
      subst hbe; refine hQ _ ?_; exact ⟨rfl, rfl, rfl, rfl, rfl⟩
    · rw [hd, List.all_cons] at hi
      have ga := getD_rows h_ra hx
      have lf := hf f (mem_of_get hx)
      obtain ⟨rf, h_rf⟩ : ∃ r, r = f.map jC := ⟨_, rfl⟩
      have s_rf : V.shR rf = rf := by rw [h_rf]; exact shR_jC f
      have l_rf : rf.length = f.length := by simp [h_rf]
      have ga' : ra.getD i.toNat [] = [.sl false 2 rf] := by rw [ga, h_rf]; rfl
      clear hf hx hd
      by_cases hl2 : f.length ≤ 20
      · rw [decide_eq_true hl2, Bool.true_and] at hi
        obtain ⟨T, hT⟩ : ∃ T, T = (p.drop (i.toNat + 1)).all fun f => decide (f.length ≤ 20) && f.all (okI n) := ⟨_, rfl⟩
        rw [← hT] at hi
        obtain ⟨m, hm0, hm⟩ : ∃ n : Int, 0 ≤ n ∧ n.toNat = rf.length := ⟨rf.length, by omega, by omega⟩
        repeat' (cbv; first | refine .y ?_ | refine .n ?_ | refine .split (fun hc => ?_) fun hc => ?_ | refine EqQ.ints rfl (fun hc => ?_) fun hc => ?_ | refine Lt.to True.intro (show (rf.length : Int) = m by omega) ?_ | refine .row ga' ?_ | refine .wa fun v hv => ?_ | refine .ra fun v hv => ?_ | refine .qa fun v hv => ?_ | refine .len fun v hv => ?_ | refine .all True.intro fun v hv => ?_ | refine Lt.to (by decide) rfl ?_ | (refine .au fun vr vn hvr hvn hvl => ?_; try simp only [List.length_cons, List.length_nil] at hvl) | fail)
        all_goals (try cbv)
        refine LoopQ.to (ι := Int) (fun k => ⟨tab .undef [(0, .sl false 1 ra), (3, .ptr 100 0), (17, .sl false 1 ra), (18, .int .i64 n), (19, .int .i64 i), (26, .sl false 2 rf), (27, .int .i64 m), (28, .int .i64 k)], tab .dead [(100, .box shapesL)]⟩)
          (fun k => 0 ≤ k ∧ k.toNat ≤ f.length ∧ b = ((f.drop k.toNat).all (okI n) && T)) (fun k => f.length - k.toNat) 0 ⟨by omega, by omega, hi⟩ rfl fun k ⟨k0, k1', hk⟩ B hB => ?_
        clear hi
        rcases drop_cases k1' with ⟨e, hd'⟩ | ⟨hlt', x, hd', hx'⟩
        · rw [hd', List.all_nil, Bool.true_and, hT] at hk
          repeat' (cbv; first | refine .y ?_ | refine .n ?_ | refine .split (fun hc => ?_) fun hc => ?_ | refine EqQ.ints rfl (fun hc => ?_) fun hc => ?_ | refine .wa fun v hv => ?_ | refine .ra fun v hv => ?_ | refine .qa fun v hv => ?_ | refine .len fun v hv => ?_ | refine .all True.intro fun v hv => ?_ | refine Lt.to (by decide) rfl ?_ | (refine .au fun vr vn hvr hvn hvl => ?_; try simp only [List.length_cons, List.length_nil] at hvl) | fail)
          all_goals (try cbv)
          exact hA _ _ ⟨by omega, by omega, by rw [hk, show v.toNat = i.toNat + 1 by omega]⟩ (by omega) rfl
        · rw [hd', List.all_cons] at hk
          have gf := getD_rows h_rf hx'
          obtain ⟨xd, xa⟩ := x
          clear hd' hx' hT ga ga' hA
          by_cases hdr : 0 ≤ xd ∧ xd ≤ 6 ∧ 0 ≤ xa
          · rcases (show xd = 0 ∨ xd = 1 ∨ xd = 2 ∨ xd = 3 ∨ xd = 4 ∨ xd = 5 ∨ xd = 6 by omega) with e | e | e | e | e | e | e <;> subst e
            all_goals
              simp only [okI, mostI, Int.reduceEq, if_true, if_false, or_false, false_or, or_true, true_or, or_self] at hk
              try rw [← hP] at k1
              try rw [← hP] at k2
              try rw [← hP] at k3
              try rw [← hP] at k4
              repeat' (cbv; first | refine .y ?_ | refine .n ?_ | refine .split (fun hc => ?_) fun hc => ?_ | refine EqQ.ints rfl (fun hc => ?_) fun hc => ?_ | refine .row gf ?_ | refine CanQ.to (hP ▸ can_sh1) ?_ | refine CanQ.to (hP ▸ can_sh2) ?_ | refine CanQ.to (hP ▸ can_sh3) ?_ | refine CanQ.to (hP ▸ can_sh4) ?_ | refine .go k1 ?_ | refine .go k2 ?_ | refine .go k3 ?_ | refine .go k4 ?_ | refine .wa fun v hv => ?_ | refine .ra fun v hv => ?_ | refine .qa fun v hv => ?_ | refine .len fun v hv => ?_ | refine .all True.intro fun v hv => ?_ | refine Lt.to (by decide) rfl ?_ | (refine .au fun vr vn hvr hvn hvl => ?_; try simp only [List.length_cons, List.length_nil] at hvl) | fail)
              all_goals (try cbv)
              all_goals first
                | (have hbe : b = false := by rw [hk, decide_eq_false (by omega)]; rfl
                   subst hbe; (refine hQ _ ?_; exact ⟨rfl, rfl, rfl, rfl, rfl⟩))
                | (rw [decide_eq_true (by omega), Bool.true_and] at hk
                   exact hB _ _ ⟨by omega, by omega, by rw [hk, show v.toNat = k.toNat + 1 by omega]⟩ (by omega) rfl)
          · rw [show okI n ⟨xd, xa⟩ = false from decide_eq_false (by dsimp only; omega), Bool.false_and, Bool.false_and] at hk
            repeat' (cbv; first | refine .y ?_ | refine .n ?_ | refine .split (fun hc => ?_) fun hc => ?_ | refine EqQ.ints rfl (fun hc => ?_) fun hc => ?_ | refine .row gf ?_ | refine .wa fun v hv => ?_ | refine .ra fun v hv => ?_ | refine .qa fun v hv => ?_ | refine .len fun v hv => ?_ | refine .all True.intro fun v hv => ?_ | refine Lt.to (by decide) rfl ?_ | (refine .au fun vr vn hvr hvn hvl => ?_; try simp only [List.length_cons, List.length_nil] at hvl) | fail)
            all_goals (try cbv)
            all_goals first
              | (have hbe : b = false := hk
                 subst hbe; (refine hQ _ ?_; exact ⟨rfl, rfl, rfl, rfl, rfl⟩))
              | (exfalso; omega)
      · rw [decide_eq_false hl2, Bool.false_and, Bool.false_and] at hi
        repeat' (cbv; first | refine .y ?_ | refine .n ?_ | refine .split (fun hc => ?_) fun hc => ?_ | refine EqQ.ints rfl (fun hc => ?_) fun hc => ?_ | refine .row ga' ?_ | refine .wa fun v hv => ?_ | refine .ra fun v hv => ?_ | refine .qa fun v hv => ?_ | refine .len fun v hv => ?_ | refine .all True.intro fun v hv => ?_ | refine Lt.to (by decide) rfl ?_ | (refine .au fun vr vn hvr hvn hvl => ?_; try simp only [List.length_cons, List.length_nil] at hvl) | fail)
        all_goals (try cbv)
        have hbe : b = false := by exact hi
        subst hbe; refine hQ _ ?_; exact ⟨rfl, rfl, rfl, rfl, rfl⟩
  · rw [decide_eq_false hl, Bool.false_and] at hb
    repeat' (cbv; first | refine .y ?_ | refine .n ?_ | refine .split (fun hc => ?_) fun hc => ?_ | refine EqQ.ints rfl (fun hc => ?_) fun hc => ?_ | refine .wa fun v hv => ?_ | refine .ra fun v hv => ?_ | refine .qa fun v hv => ?_ | refine .len fun v hv => ?_ | refine .all True.intro fun v hv => ?_ | refine Lt.to (by decide) rfl ?_ | (refine .au fun vr vn hvr hvn hvl => ?_; try simp only [List.length_cons, List.length_nil] at hvl) | fail)
    all_goals (try cbv)
    all_goals first
      | (have hbe : b = false := hb
         subst hbe; (refine hQ _ ?_; exact ⟨rfl, rfl, rfl, rfl, rfl⟩))
      | (exfalso; omega)
end Go.Ab

namespace Go.Ab
open Go Go.Proofs
set_option maxRecDepth 100000

def gK (t : TD) : V := .int .i64 t.g
theorem midx_seen (g : Int) : ∀ pre : List TD, (midx (.int .i64 g) (pre.map gK)).isSome = pre.any fun t => decide (t.g = g)
  | [] => rfl
  | t :: l => by
    have ih := midx_seen g l
    simp only [List.map_cons, midx, List.any_cons]
    by_cases h : t.g = g
    · have e : (V.int .i64 g).keyIs (gK t) = true := by simp [gK, V.keyIs, h]
      rw [if_pos e]; simp [h]
    · have e : ¬ (V.int .i64 g).keyIs (gK t) = true := by simp [gK, V.keyIs]; omega
      rw [if_neg e, Option.isSome_map, ih]; simp [h]
theorem midx_lt {k : V} : ∀ {ks : List V} {j : Nat}, midx k ks = some j → j < ks.length
  | [], _, h => by simp [midx] at h
  | x :: ks, j, h => by
    simp only [midx] at h
    split at h
    · simp at h; subst h; simp
    · simp only [Option.map_eq_some_iff] at h
      obtain ⟨i, hi, rfl⟩ := h
      have := midx_lt hi
      simp; omega
theorem mget_seen (pre : List TD) (g : Int) (b : Bool) (hb : b = pre.any fun t => decide (t.g = g)) :
    (match mfind (.int .i64 g) (pre.map gK) (pre.map fun _ => V.bool true) with | some v => v.unown | none => .bool false) = .bool b := by
  have h := midx_seen g pre
  unfold mfind
  rw [← h] at hb
  cases hm : midx (.int .i64 g) (pre.map gK) with
  | none => rw [hm] at hb; simp only [Option.bind_none]; rw [hb]; rfl
  | some j =>
    have := midx_lt hm
    rw [List.length_map] at this
    rw [hm] at hb
    simp only [Option.bind_some, List.getElem?_map, List.getElem?_eq_getElem this, Option.map_some, V.unown]
    rw [hb]; rfl
theorem mput_new (pre : List TD) (x : TD) (h : (pre.any fun t => decide (t.g = x.g)) = false) :
    mput (.int .i64 x.g) (.bool true) (pre.map gK) (pre.map fun _ => V.bool true) = ((pre ++ [x]).map gK, (pre ++ [x]).map fun _ => V.bool true) := by
  have h1 := midx_seen x.g pre
  rw [h] at h1
  unfold mput
  cases hm : midx (.int .i64 x.g) (pre.map gK) with
  | none => simp [gK]
  | some j => rw [hm] at h1; cases h1
theorem cmp_ahead (y x : TD) : cmpT y x < 0 ↔ aheadP y x := by
  unfold cmpT aheadP cmpI
  repeat' split
  all_goals omega

structure SlI where
  i : Int
  ks : List V
  vs : List V
set_option maxHeartbeats 8000000 in
theorem c56 (l : List TD) (hl : l.length ≤ 1000000) (b : Bool) (hb : b = mayT [] l) : CallsV Try.prog 56 [.sl false 2 (l.map tC)] (.bool b) [.undef] true := by
  obtain ⟨ra, h_ra⟩ : ∃ r, r = l.map tC := ⟨_, rfl⟩
  have s_ra : V.shR ra = ra := by rw [h_ra]; exact shR_tC l
  have l_ra : ra.length = l.length := by simp [h_ra]
  rw [← h_ra]
  refine callsV_q hD Try.func56 ok56x rfl rfl (by simp only [List.map_cons, List.map_nil, V.sh, s_ra]) fun P Q hP hQ => ?_
  obtain ⟨m, hm0, hm⟩ : ∃ n : Int, 0 ≤ n ∧ n.toNat = ra.length := ⟨ra.length, by omega, by omega⟩
  repeat' (cbv; first | refine .y ?_ | refine .n ?_ | refine .split (fun hc => ?_) fun hc => ?_ | refine EqQ.ints rfl (fun hc => ?_) fun hc => ?_ | refine Lt.to True.intro (show (ra.length : Int) = m by omega) ?_ | refine .wa fun v hv => ?_ | refine .ra fun v hv => ?_ | refine .qa fun v hv => ?_ | refine .len fun v hv => ?_ | refine .all True.intro fun v hv => ?_ | refine Lt.to (by decide) rfl ?_ | (refine .au fun vr vn hvr hvn hvl => ?_; try simp only [List.length_cons, List.length_nil] at hvl) | fail)
  all_goals (try cbv)
  refine LoopQ.to (ι := SlI) (fun p => ⟨tab .undef [(0, .sl false 2 ra), (3, .mp 100), (7, .sl false 2 ra), (8, .int .i64 m), (9, .int .i64 p.i)], tab .dead [(100, .mp p.ks p.vs)]⟩)
    (fun p => 0 ≤ p.i ∧ p.i.toNat ≤ l.length ∧ p.ks = (l.take p.i.toNat).map gK ∧ p.vs = ((l.take p.i.toNat).map fun _ => V.bool true) ∧ b = mayT (l.take p.i.toNat) (l.drop p.i.toNat)) (fun p => l.length - p.i.toNat) ⟨0, [], []⟩ ⟨by simp, by simp, by simp, by simp, by simpa using hb⟩ rfl fun ⟨i, ks, vs⟩ ⟨i0, i1, hks, hvs, hi⟩ A hA => ?_
  dsimp only at i0 i1 hks hvs hi ⊢
  clear hb
  rcases drop_cases i1 with ⟨e, hd⟩ | ⟨hlt, x, hd, hx⟩
  · rw [hd] at hi
    repeat' (cbv; first | refine .y ?_ | refine .n ?_ | refine .split (fun hc => ?_) fun hc => ?_ | refine EqQ.ints rfl (fun hc => ?_) fun hc => ?_ | refine .wa fun v hv => ?_ | refine .ra fun v hv => ?_ | refine .qa fun v hv => ?_ | refine .len fun v hv => ?_ | refine .all True.intro fun v hv => ?_ | refine Lt.to (by decide) rfl ?_ | (refine .au fun vr vn hvr hvn hvl => ?_; try simp only [List.length_cons, List.length_nil] at hvl) | fail)
    all_goals (try cbv)
    have hbe : b = true := by rw [hi]; rfl
    subst hbe; refine hQ _ ?_; exact ⟨rfl, rfl, rfl, rfl, rfl⟩
  · rw [hd, mayT] at hi
    have ga := getD_rows h_ra hx
    have ht := take_succ_of hx
    obtain ⟨T, hT⟩ : ∃ T, T = mayT (l.take i.toNat ++ [x]) (l.drop (i.toNat + 1)) := ⟨_, rfl⟩
    rw [← hT] at hi
    obtain ⟨pre, hpre⟩ : ∃ pre, pre = l.take i.toNat := ⟨_, rfl⟩
    have lpre : pre.length = i.toNat := by rw [hpre]; simp; omega
    rw [← hpre] at hi hT hks hvs
    have hnext : b = T → ∀ v : Int, v = i + 1 → ∀ ks' vs', ks' = (pre ++ [x]).map gK → vs' = ((pre ++ [x]).map fun _ => V.bool true) →
        ks' = (l.take v.toNat).map gK ∧ vs' = ((l.take v.toNat).map fun _ => V.bool true) ∧ b = mayT (l.take v.toNat) (l.drop v.toNat) := fun e v hv ks' vs' h1 h2 => by
      rw [show v.toNat = i.toNat + 1 by omega, ht, ← hpre, e, hT]
      exact ⟨h1, h2, rfl⟩
    obtain ⟨sn, hsn⟩ : ∃ sn, sn = pre.any fun t => decide (t.g = x.g) := ⟨_, rfl⟩
    have hget : (match mfind (.int .i64 x.g) ks vs with | some v => v.unown | none => .bool false) = .bool sn := by rw [hks, hvs]; exact mget_seen pre x.g sn hsn
    have hall : (pre.all fun y => decide (y.g ≠ x.g)) = !sn := by
      rw [hsn]; clear hsn hget hnext hT hi lpre hpre hks hvs
      induction pre with
      | nil => rfl
      | cons y l ih => simp only [List.all_cons, List.any_cons, ih, Bool.not_or]; by_cases h : y.g = x.g <;> simp [h]
    have hkey : (V.int .i64 0).keyLike (V.int .i64 x.g) = true ∧ ∀ y ∈ ks, (V.int .i64 0).keyLike y = true := ⟨rfl, fun y hy => by
      rw [hks] at hy
      obtain ⟨t, _, rfl⟩ := List.mem_map.1 hy
      rfl⟩
    rw [hall] at hi
    have hkx : okT x = decide (0 ≤ x.t ∧ x.t < 4611686018427387904 ∧ 1 ≤ x.g) := rfl
    rw [hkx] at hi
    by_cases hok : 0 ≤ x.t ∧ x.t < 4611686018427387904 ∧ 1 ≤ x.g
    · rw [decide_eq_true hok, Bool.true_and] at hi
      cases sn with
      | true =>
        simp only [Bool.not_true, Bool.and_false, Bool.false_and] at hi
        obtain ⟨xt, xg⟩ := x
        dsimp only at hok hget hkey
        clear hnext hT hks hvs hx hd ht hall hsn
        repeat' (cbv; first | refine .y ?_ | refine .n ?_ | refine .split (fun hc => ?_) fun hc => ?_ | refine EqQ.ints rfl (fun hc => ?_) fun hc => ?_ | refine .row ga ?_ | refine Lt.to hkey hget ?_ | refine .wa fun v hv => ?_ | refine .ra fun v hv => ?_ | refine .qa fun v hv => ?_ | refine .len fun v hv => ?_ | refine .all True.intro fun v hv => ?_ | refine Lt.to (by decide) rfl ?_ | (refine .au fun vr vn hvr hvn hvl => ?_; try simp only [List.length_cons, List.length_nil] at hvl) | fail)
        all_goals (try cbv)
        have hbe : b = false := by exact hi
        subst hbe; refine hQ _ ?_; exact ⟨rfl, rfl, rfl, rfl, rfl⟩
      | false =>
        obtain ⟨ks', vs', hp, hk', hv'⟩ : ∃ ks' vs', mput (.int .i64 x.g) (.bool true) ks vs = (ks', vs') ∧ ks' = (pre ++ [x]).map gK ∧ vs' = ((pre ++ [x]).map fun _ => V.bool true) :=
          ⟨_, _, by rw [hks, hvs]; exact mput_new pre x hsn.symm, rfl, rfl⟩
        simp only [Bool.not_false, Bool.and_true] at hi
        have hneed : (V.int .i64 0).keyLike (V.int .i64 x.g) = true ∧ (∀ y ∈ ks, (V.int .i64 0).keyLike y = true) ∧ (V.bool true).closed = true ∧ (V.bool true).val = true := ⟨hkey.1, hkey.2, rfl, rfl⟩
        rcases (show i = 0 ∨ 0 < i by omega) with e0 | hpos
        · subst e0
          have hpe : pre = [] := List.eq_nil_of_length_eq_zero lpre
          have hbT : b = T := by rw [hi, hpe]; rfl
          have hnx := hnext hbT
          clear hnext hT hks hvs hx hd ht hall hsn hi
          obtain ⟨xt, xg⟩ := x
          dsimp only at hok hget hkey hp hneed
          have hat1 : 2 = 2 ∧ (0 : Int) ≤ 0 ∧ (0 : Int).toNat < ra.length := ⟨rfl, by omega, by omega⟩
          repeat' (cbv; first | refine .y ?_ | refine .n ?_ | refine .split (fun hc => ?_) fun hc => ?_ | refine EqQ.ints rfl (fun hc => ?_) fun hc => ?_ | refine Lt.to hat1 ga ?_ | refine Lt.to hkey hget ?_ | refine MapQ.to hneed hp ?_ | refine .wa fun v hv => ?_ | refine .ra fun v hv => ?_ | refine .qa fun v hv => ?_ | refine .len fun v hv => ?_ | refine .all True.intro fun v hv => ?_ | refine Lt.to (by decide) rfl ?_ | (refine .au fun vr vn hvr hvn hvl => ?_; try simp only [List.length_cons, List.length_nil] at hvl) | fail)
          all_goals (try cbv)
          exact hA ⟨v, ks', vs'⟩ _ ⟨by dsimp only; omega, by dsimp only; omega, hnx v hv ks' vs' hk' hv'⟩ (by dsimp only; omega) rfl
        · obtain ⟨j, hj⟩ : ∃ j : Int, j = i - 1 := ⟨_, rfl⟩
          obtain ⟨y, hy⟩ : ∃ y, l[j.toNat]? = some y := ⟨_, List.getElem?_eq_getElem (by omega)⟩
          have gy := getD_rows h_ra hy
          have hlast : pre.getLast? = some y := by
            rw [List.getLast?_eq_getElem?, lpre, hpre, List.getElem?_take, if_pos (by omega), show i.toNat - 1 = j.toNat by omega, hy]
          rw [hlast] at hi
          simp only at hi
          obtain ⟨z, hz⟩ : ∃ z, z = cmpT y x := ⟨_, rfl⟩
          have cz := r_compare y x z hz
          have hza := cmp_ahead y x
          rw [← hz] at hza
          have hhi : b = (decide (z < 0) && T) := by
            rw [hi]; congr 1; exact decide_eq_decide.2 hza.symm
          clear hT hks hvs hx hd ht hall hsn hi hza hz hlast hy
          obtain ⟨xt, xg⟩ := x
          obtain ⟨yt, yg⟩ := y
          dsimp only at hok hget hkey hp hneed
          try rw [← hP] at cz
          repeat' (cbv; first | refine .y ?_ | refine .n ?_ | refine .split (fun hc => ?_) fun hc => ?_ | refine EqQ.ints rfl (fun hc => ?_) fun hc => ?_ | refine .row ga ?_ | refine .wn hj ?_ | refine .row gy ?_ | refine Lt.to hkey hget ?_ | refine MapQ.to hneed hp ?_ | refine .go cz ?_ | refine .wa fun v hv => ?_ | refine .ra fun v hv => ?_ | refine .qa fun v hv => ?_ | refine .len fun v hv => ?_ | refine .all True.intro fun v hv => ?_ | refine Lt.to (by decide) rfl ?_ | (refine .au fun vr vn hvr hvn hvl => ?_; try simp only [List.length_cons, List.length_nil] at hvl) | fail)
          all_goals (try cbv)
          · have hbe : b = false := by rw [hhi, decide_eq_false (by omega)]; rfl
            subst hbe; refine hQ _ ?_; exact ⟨rfl, rfl, rfl, rfl, rfl⟩
          · exact hA ⟨v, ks', vs'⟩ _ ⟨by dsimp only; omega, by dsimp only; omega, hnext (by rw [hhi, decide_eq_true (by omega), Bool.true_and]) v hv ks' vs' hk' hv'⟩ (by dsimp only; omega) rfl
    · rw [decide_eq_false hok, Bool.false_and, Bool.false_and, Bool.false_and] at hi
      obtain ⟨xt, xg⟩ := x
      dsimp only at hok hget hkey
      clear hnext hT hks hvs hx hd ht hall hsn
      repeat' (cbv; first | refine .y ?_ | refine .n ?_ | refine .split (fun hc => ?_) fun hc => ?_ | refine EqQ.ints rfl (fun hc => ?_) fun hc => ?_ | refine .row ga ?_ | refine .wa fun v hv => ?_ | refine .ra fun v hv => ?_ | refine .qa fun v hv => ?_ | refine .len fun v hv => ?_ | refine .all True.intro fun v hv => ?_ | refine Lt.to (by decide) rfl ?_ | (refine .au fun vr vn hvr hvn hvl => ?_; try simp only [List.length_cons, List.length_nil] at hvl) | fail)
      all_goals (try cbv)
      all_goals first
        | (have hbe : b = false := hi
           subst hbe; (refine hQ _ ?_; exact ⟨rfl, rfl, rfl, rfl, rfl⟩))
        | (exfalso; omega)
end Go.Ab

namespace Go.Ab
open Go Go.Proofs
set_option maxRecDepth 100000

structure Held (s : SD) : Prop where
  prog : s.prog.length ≤ 140737488355328
  gs : s.gs.length ≤ 140737488355328
  ps : s.ps.length ≤ 140737488355328
  ms : s.ms.length ≤ 140737488355328
  gl : s.gl.length ≤ 140737488355328
  w0 : s.w0.length ≤ 140737488355328
  w1 : s.w1.length ≤ 140737488355328
  w2 : s.w2.length ≤ 140737488355328
  w3 : s.w3.length ≤ 140737488355328
  ts : s.ts.length ≤ 140737488355328

def smallS (s : SD) : Bool :=
  s.gs.all (fun g => decide (g.sq ≤ 1000000)) && s.ps.all (fun p => decide (p.sq ≤ 1000000)) && decide (s.ck ≤ 1000000000) && smallPr s.prog &&
    decide (s.gs.length ≤ 40 ∧ s.ps.length ≤ 10 ∧ s.ms.length ≤ 40 ∧ s.gl.length + s.ts.length + s.w0.length + s.w1.length + s.w2.length + s.w3.length ≤ 80)

set_option maxHeartbeats 8000000 in
theorem c8 (s : SD) (hs : Held s) (b : Bool) (hb : b = smallS s) : CallsV Try.prog 8 [.agg (stC s)] (.bool b) [.undef] true := by
  obtain ⟨prog, gs, ps, ms, gl, c0, c1, c2, c3, w0, w1, w2, w3, ts, ck, pr⟩ := s
  obtain ⟨rp, rg, rq, rm, rl, r0, r1, r2, r3, rt, ⟨h_rp, s_rp, l_rp⟩, ⟨h_rg, s_rg, l_rg⟩, ⟨h_rq, s_rq, l_rq⟩, ⟨h_rm, s_rm, l_rm⟩, ⟨h_rl, s_rl, l_rl⟩, ⟨h_r0, s_r0, l_r0⟩, ⟨h_r1, s_r1, l_r1⟩, ⟨h_r2, s_r2, l_r2⟩, ⟨h_r3, s_r3, l_r3⟩, ⟨h_rt, s_rt, l_rt⟩, hst_⟩ := stR prog gs ps ms gl c0 c1 c2 c3 w0 w1 w2 w3 ts ck pr
  obtain ⟨fp, fg, fq, fm, fl, f0, f1, f2, f3, ft⟩ := hs
  dsimp only [smallS] at hb fp fg fq fm fl f0 f1 f2 f3 ft
  rw [hst_]
  refine callsV_q hD Try.func8 ok8 rfl rfl (by simp only [List.map_cons, List.map_nil, V.sh, V.shL, stL, s_rp, s_rg, s_rq, s_rm, s_rl, s_r0, s_r1, s_r2, s_r3, s_rt]) fun P Q hP hQ => ?_
  clear hst_
  obtain ⟨tp, htp⟩ : ∃ x, x = smallPr prog := ⟨_, rfl⟩
  have cp := c9 prog (by omega) tp htp
  rw [← h_rp] at cp
  rw [← htp] at hb
  repeat' (cbv; first | refine .y ?_ | refine .n ?_ | refine .split (fun hc => ?_) fun hc => ?_ | refine EqQ.ints rfl (fun hc => ?_) fun hc => ?_ | refine .wa fun v hv => ?_ | refine .ra fun v hv => ?_ | refine .qa fun v hv => ?_ | refine .len fun v hv => ?_ | refine .all True.intro fun v hv => ?_ | refine Lt.to (by decide) rfl ?_ | (refine .au fun vr vn hvr hvn hvl => ?_; try simp only [List.length_cons, List.length_nil] at hvl) | fail)
  all_goals (try cbv)
  obtain ⟨n0, rfl⟩ : ∃ n0, n0 = v := ⟨v, rfl⟩
  obtain ⟨z0, hz0⟩ : ∃ z : Int, 0 ≤ z ∧ z.toNat = w0.length := ⟨w0.length, by omega, by omega⟩
  obtain ⟨z1, hz1⟩ : ∃ z : Int, 0 ≤ z ∧ z.toNat = w1.length := ⟨w1.length, by omega, by omega⟩
  obtain ⟨z2, hz2⟩ : ∃ z : Int, 0 ≤ z ∧ z.toNat = w2.length := ⟨w2.length, by omega, by omega⟩
  obtain ⟨z3, hz3⟩ : ∃ z : Int, 0 ≤ z ∧ z.toNat = w3.length := ⟨w3.length, by omega, by omega⟩
  obtain ⟨zl, hzl⟩ : ∃ z : Int, 0 ≤ z ∧ z.toNat = gl.length := ⟨gl.length, by omega, by omega⟩
  obtain ⟨zt, hzt⟩ : ∃ z : Int, 0 ≤ z ∧ z.toNat = ts.length := ⟨ts.length, by omega, by omega⟩
  have hn0 : n0 = zl + zt := by omega
  refine LoopQ.to (ι := Int) (fun i => ⟨tab .undef [(1, .ptr 100 0), (3, .int .i64 n0), (4, .int .i64 i)], tab .dead [(100, .box (stL rp rg rq rm rl c0 c1 c2 c3 r0 r1 r2 r3 rt ck pr))]⟩)
    (fun i => 0 ≤ i ∧ i.toNat ≤ gs.length ∧ b = ((gs.drop i.toNat).all (fun g => decide (g.sq ≤ 1000000)) && ps.all (fun p => decide (p.sq ≤ 1000000)) && decide (ck ≤ 1000000000) && tp && decide (gs.length ≤ 40 ∧ ps.length ≤ 10 ∧ ms.length ≤ 40 ∧ gl.length + ts.length + w0.length + w1.length + w2.length + w3.length ≤ 80))) (fun i => gs.length - i.toNat) 0 ⟨by omega, by omega, hb⟩ rfl fun i ⟨i0, i1, hi⟩ A hA => ?_
  rcases drop_cases i1 with ⟨e, hd⟩ | ⟨hlt, x, hd, hx⟩
  · rw [hd, List.all_nil, Bool.true_and] at hi
    repeat' (cbv; first | refine .y ?_ | refine .n ?_ | refine .split (fun hc => ?_) fun hc => ?_ | refine EqQ.ints rfl (fun hc => ?_) fun hc => ?_ | refine .wa fun v hv => ?_ | refine .ra fun v hv => ?_ | refine .qa fun v hv => ?_ | refine .len fun v hv => ?_ | refine .all True.intro fun v hv => ?_ | refine Lt.to (by decide) rfl ?_ | (refine .au fun vr vn hvr hvn hvl => ?_; try simp only [List.length_cons, List.length_nil] at hvl) | fail)
    all_goals (try cbv)
    refine LoopQ.to (ι := Int) (fun i => ⟨tab .undef [(1, .ptr 100 0), (3, .int .i64 n0), (5, .int .i64 i)], tab .dead [(100, .box (stL rp rg rq rm rl c0 c1 c2 c3 r0 r1 r2 r3 rt ck pr))]⟩)
      (fun i => 0 ≤ i ∧ i.toNat ≤ ps.length ∧ b = ((ps.drop i.toNat).all (fun p => decide (p.sq ≤ 1000000)) && decide (ck ≤ 1000000000) && tp && decide (gs.length ≤ 40 ∧ ps.length ≤ 10 ∧ ms.length ≤ 40 ∧ gl.length + ts.length + w0.length + w1.length + w2.length + w3.length ≤ 80))) (fun i => ps.length - i.toNat) 0 ⟨by omega, by omega, hi⟩ rfl fun i ⟨i0, i1, hi⟩ A hA => ?_
    rcases drop_cases i1 with ⟨e, hd⟩ | ⟨hlt, x, hd, hx⟩
    · rw [hd, List.all_nil, Bool.true_and] at hi
      repeat' (cbv; first | refine .y ?_ | refine .n ?_ | refine .split (fun hc => ?_) fun hc => ?_ | refine EqQ.ints rfl (fun hc => ?_) fun hc => ?_ | refine .wa fun v hv => ?_ | refine .ra fun v hv => ?_ | refine .qa fun v hv => ?_ | refine .len fun v hv => ?_ | refine .all True.intro fun v hv => ?_ | refine Lt.to (by decide) rfl ?_ | (refine .au fun vr vn hvr hvn hvl => ?_; try simp only [List.length_cons, List.length_nil] at hvl) | fail)
      all_goals (try cbv)
      · have hbe : b = false := by rw [hi, decide_eq_false (by omega)]; rfl
        subst hbe; refine hQ _ ?_; exact ⟨rfl, rfl, rfl, rfl, rfl⟩
      · rw [decide_eq_true (p := ck ≤ 1000000000) (by omega), Bool.true_and] at hi
        refine LoopQ.to (ι := Int × Int) (fun p => ⟨tab .undef [(1, .ptr 100 0), (3, .int .i64 p.2), (6, .int .i64 p.1)], tab .dead [(100, .box (stL rp rg rq rm rl c0 c1 c2 c3 r0 r1 r2 r3 rt ck pr))]⟩)
          (fun p => (p.1 = 0 ∧ p.2 = n0) ∨ (p.1 = 1 ∧ p.2 = n0 + z0) ∨ (p.1 = 2 ∧ p.2 = n0 + z0 + z1) ∨ (p.1 = 3 ∧ p.2 = n0 + z0 + z1 + z2) ∨ (p.1 = 4 ∧ p.2 = n0 + z0 + z1 + z2 + z3)) (fun p => (4 - p.1).toNat) (0, n0) (.inl ⟨rfl, rfl⟩) rfl fun ⟨i, n⟩ hin A hA => ?_
        dsimp only at hin ⊢
        rcases hin with ⟨rfl, hn⟩ | ⟨rfl, hn⟩ | ⟨rfl, hn⟩ | ⟨rfl, hn⟩ | ⟨rfl, hn⟩
        · repeat' (cbv; first | refine .y ?_ | refine .n ?_ | refine .split (fun hc => ?_) fun hc => ?_ | refine EqQ.ints rfl (fun hc => ?_) fun hc => ?_ | refine .wa fun v hv => ?_ | refine .ra fun v hv => ?_ | refine .qa fun v hv => ?_ | refine .len fun v hv => ?_ | refine .all True.intro fun v hv => ?_ | refine Lt.to (by decide) rfl ?_ | (refine .au fun vr vn hvr hvn hvl => ?_; try simp only [List.length_cons, List.length_nil] at hvl) | fail)
          all_goals (try cbv)
          exact hA (_, _) _ (.inr (.inl ⟨hv, by dsimp only; omega⟩)) (by dsimp only; omega) rfl
        · repeat' (cbv; first | refine .y ?_ | refine .n ?_ | refine .split (fun hc => ?_) fun hc => ?_ | refine EqQ.ints rfl (fun hc => ?_) fun hc => ?_ | refine .wa fun v hv => ?_ | refine .ra fun v hv => ?_ | refine .qa fun v hv => ?_ | refine .len fun v hv => ?_ | refine .all True.intro fun v hv => ?_ | refine Lt.to (by decide) rfl ?_ | (refine .au fun vr vn hvr hvn hvl => ?_; try simp only [List.length_cons, List.length_nil] at hvl) | fail)
          all_goals (try cbv)
          exact hA (_, _) _ (.inr (.inr (.inl ⟨hv, by dsimp only; omega⟩))) (by dsimp only; omega) rfl
        · repeat' (cbv; first | refine .y ?_ | refine .n ?_ | refine .split (fun hc => ?_) fun hc => ?_ | refine EqQ.ints rfl (fun hc => ?_) fun hc => ?_ | refine .wa fun v hv => ?_ | refine .ra fun v hv => ?_ | refine .qa fun v hv => ?_ | refine .len fun v hv => ?_ | refine .all True.intro fun v hv => ?_ | refine Lt.to (by decide) rfl ?_ | (refine .au fun vr vn hvr hvn hvl => ?_; try simp only [List.length_cons, List.length_nil] at hvl) | fail)
          all_goals (try cbv)
          exact hA (_, _) _ (.inr (.inr (.inr (.inl ⟨hv, by dsimp only; omega⟩)))) (by dsimp only; omega) rfl
        · repeat' (cbv; first | refine .y ?_ | refine .n ?_ | refine .split (fun hc => ?_) fun hc => ?_ | refine EqQ.ints rfl (fun hc => ?_) fun hc => ?_ | refine .wa fun v hv => ?_ | refine .ra fun v hv => ?_ | refine .qa fun v hv => ?_ | refine .len fun v hv => ?_ | refine .all True.intro fun v hv => ?_ | refine Lt.to (by decide) rfl ?_ | (refine .au fun vr vn hvr hvn hvl => ?_; try simp only [List.length_cons, List.length_nil] at hvl) | fail)
          all_goals (try cbv)
          exact hA (_, _) _ (.inr (.inr (.inr (.inr ⟨hv, by dsimp only; omega⟩)))) (by dsimp only; omega) rfl
        · cases tp with
          | false =>
            try rw [← hP] at cp
            repeat' (cbv; first | refine .y ?_ | refine .n ?_ | refine .split (fun hc => ?_) fun hc => ?_ | refine EqQ.ints rfl (fun hc => ?_) fun hc => ?_ | refine .go cp ?_ | refine .wa fun v hv => ?_ | refine .ra fun v hv => ?_ | refine .qa fun v hv => ?_ | refine .len fun v hv => ?_ | refine .all True.intro fun v hv => ?_ | refine Lt.to (by decide) rfl ?_ | (refine .au fun vr vn hvr hvn hvl => ?_; try simp only [List.length_cons, List.length_nil] at hvl) | fail)
            all_goals (try cbv)
            have hbe : b = false := by rw [hi]; rfl
            subst hbe; refine hQ _ ?_; exact ⟨rfl, rfl, rfl, rfl, rfl⟩
          | true =>
            rw [Bool.true_and] at hi
            try rw [← hP] at cp
            repeat' (cbv; first | refine .y ?_ | refine .n ?_ | refine .split (fun hc => ?_) fun hc => ?_ | refine EqQ.ints rfl (fun hc => ?_) fun hc => ?_ | refine .go cp ?_ | refine .wa fun v hv => ?_ | refine .ra fun v hv => ?_ | refine .qa fun v hv => ?_ | refine .len fun v hv => ?_ | refine .all True.intro fun v hv => ?_ | refine Lt.to (by decide) rfl ?_ | (refine .au fun vr vn hvr hvn hvl => ?_; try simp only [List.length_cons, List.length_nil] at hvl) | fail)
            all_goals (try cbv)
            all_goals first
              | (have hbe : b = true := by rw [hi]; exact decide_eq_true (by omega)
                 subst hbe; (refine hQ _ ?_; exact ⟨rfl, rfl, rfl, rfl, rfl⟩))
              | (have hbe : b = false := by rw [hi]; exact decide_eq_false (by omega)
                 subst hbe; (refine hQ _ ?_; exact ⟨rfl, rfl, rfl, rfl, rfl⟩))
    · rw [hd, List.all_cons] at hi
      have ga := getD_rows h_rq hx
      obtain ⟨x0, x1, ⟨x2, x3, x4, x5, x6, x7, x8, x9, x10, x11⟩, x12⟩ := x
      repeat' (cbv; first | refine .y ?_ | refine .n ?_ | refine .split (fun hc => ?_) fun hc => ?_ | refine EqQ.ints rfl (fun hc => ?_) fun hc => ?_ | refine .row ga ?_ | refine .wa fun v hv => ?_ | refine .ra fun v hv => ?_ | refine .qa fun v hv => ?_ | refine .len fun v hv => ?_ | refine .all True.intro fun v hv => ?_ | refine Lt.to (by decide) rfl ?_ | (refine .au fun vr vn hvr hvn hvl => ?_; try simp only [List.length_cons, List.length_nil] at hvl) | fail)
      all_goals (try cbv)
      · have hbe : b = false := by rw [hi, decide_eq_false (by dsimp only; omega)]; rfl
        subst hbe; refine hQ _ ?_; exact ⟨rfl, rfl, rfl, rfl, rfl⟩
      · rw [decide_eq_true (by dsimp only; omega), Bool.true_and] at hi
        exact hA _ _ ⟨by omega, by omega, by rw [hi, show v.toNat = i.toNat + 1 by omega]⟩ (by omega) rfl
  · rw [hd, List.all_cons] at hi
    have ga := getD_rows h_rg hx
    obtain ⟨x0, x1, x2, x3, x4⟩ := x
    repeat' (cbv; first | refine .y ?_ | refine .n ?_ | refine .split (fun hc => ?_) fun hc => ?_ | refine EqQ.ints rfl (fun hc => ?_) fun hc => ?_ | refine .row ga ?_ | refine .wa fun v hv => ?_ | refine .ra fun v hv => ?_ | refine .qa fun v hv => ?_ | refine .len fun v hv => ?_ | refine .all True.intro fun v hv => ?_ | refine Lt.to (by decide) rfl ?_ | (refine .au fun vr vn hvr hvn hvl => ?_; try simp only [List.length_cons, List.length_nil] at hvl) | fail)
    all_goals (try cbv)
    · have hbe : b = false := by rw [hi, decide_eq_false (by dsimp only; omega)]; rfl
      subst hbe; refine hQ _ ?_; exact ⟨rfl, rfl, rfl, rfl, rfl⟩
    · rw [decide_eq_true (by dsimp only; omega), Bool.true_and] at hi
      exact hA _ _ ⟨by omega, by omega, by rw [hi, show v.toNat = i.toNat + 1 by omega]⟩ (by omega) rfl
end Go.Ab
