/-
  The plain law of places, second part: may a state be, and where is a G: the program's answers are the document's.
  May a state be? where is a G? what is a queue? a copy; a program's state: the program.
  Where is a G? what is a queue? the program.
  A copy; a program's state: the program.
  Results as they are read: copies, and states that programs begin with.
-/
import Derived.Test.YteiafekbmkbldaaK4
import Derived.Test.YteiafekbmkbldaaK5
import Derived.Test.YteiafekbmkbldaaK10
import Derived.Test.YteiafekbmkbldaaK11
import Derived.Test.YteiafekbmkbldaaK12
set_option linter.all false
namespace Go.Ab
open Go Go.Proofs

theorem places_split (s : SD) (g : Int) : atL (puts s) g = atL (putsPs 0 s.ps) g ++ (List.replicate (s.gl.count g) (3, 0) ++ (List.replicate (s.w0.count g) (5, 0) ++ (List.replicate (s.w1.count g) (5, 1) ++ (List.replicate (s.w2.count g) (5, 2) ++
    (List.replicate (s.w3.count g) (5, 3) ++ (List.replicate ((s.ts.map (·.g)).count g) (6, 0) ++ (atL (putsMs 0 s.ms) g ++ atL (putsGs 0 s.gs) g))))))) := by
  simp only [puts, putsW, putsR, atL_app, atL_K, atL_T]

def cS (F : List (Int × Int)) (k : Int) : Nat := F.countP fun y => decide (statusOf y.1 = k)
theorem cS_app (A B : List (Int × Int)) (k : Int) : cS (A ++ B) k = cS A k + cS B k := by simp [cS, List.countP_append]
theorem cS_rep (n : Nat) (y : Int × Int) (k : Int) : cS (List.replicate n y) k = if statusOf y.1 = k then n else 0 := by
  simp [cS, List.countP_replicate]
theorem cS_P (s : SD) (g k : Int) : cS (atL (putsPs 0 s.ps) g) k = if k = 1 then (s.ps.flatMap queueOf).count g else 0 := by
  have hk : ∀ y ∈ atL (putsPs 0 s.ps) g, statusOf y.1 = 1 := fun y hy => by
    rw [mem_atL] at hy
    have := putsPs_kind _ _ _ hy
    unfold statusOf
    rw [if_pos (by dsimp only at this; omega)]
  by_cases h : k = 1
  · subst h
    rw [if_pos rfl, ← putsPs_keys s.ps 0, ← atL_len]
    unfold cS
    rw [List.countP_eq_length]
    intro y hy; simp [hk y hy]
  · rw [if_neg h]
    unfold cS
    rw [List.countP_eq_zero]
    intro y hy; simp [hk y hy]; omega
theorem cS_M (s : SD) (g k : Int) : cS (atL (putsMs 0 s.ms) g) k = if k = 2 then (onMs s true).count g else if k = 4 then (onMs s false).count g else 0 := by
  have h1 := kind_M true s.ms 0 g
  have h2 := kind_M false s.ms 0 g
  have hk : ∀ y ∈ atL (putsMs 0 s.ms) g, y.1 = 4 ∨ y.1 = 7 := fun y hy => putsMs_kind hy
  unfold cS
  by_cases e : k = 2
  · subst e
    rw [if_pos rfl]
    unfold onMs
    rw [← h1, List.countP_eq_length_filter]
    congr 1
    refine List.filter_congr fun y hy => ?_
    rcases hk y hy with e | e <;> simp [e, statusOf]
  · rw [if_neg e]
    by_cases e : k = 4
    · subst e
      rw [if_pos rfl]
      unfold onMs
      rw [← h2, List.countP_eq_length_filter]
      congr 1
      refine List.filter_congr fun y hy => ?_
      rcases hk y hy with e | e <;> simp [e, statusOf]
    · rw [if_neg e, List.countP_eq_zero]
      intro y hy
      rcases hk y hy with e | e <;> simp [e, statusOf] <;> omega
theorem cS_len : ∀ F : List (Int × Int), F.length = cS F 1 + cS F 2 + cS F 3 + cS F 4 + cS F 5
  | [] => rfl
  | y :: F => by
    have ih := cS_len F
    simp only [cS, List.countP_cons, List.length_cons] at ih ⊢
    have : statusOf y.1 = 1 ∨ statusOf y.1 = 2 ∨ statusOf y.1 = 3 ∨ statusOf y.1 = 4 ∨ statusOf y.1 = 5 := by
      unfold statusOf; repeat' split
      all_goals omega
    rcases this with e | e | e | e | e <;> simp [e] <;> omega

structure Cts (s : SD) (g : Int) (x : GD) : Prop where
  s1 : (cS (atL (puts s) g) 1 : Int) = timesL (runnables s) g
  s2 : (cS (atL (puts s) g) 2 : Int) = timesL (onMs s true) g
  s3 : (cS (atL (puts s) g) 3 : Int) = timesL (waiters s) g
  s4 : (cS (atL (puts s) g) 4 : Int) = timesL (onMs s false) g
  s5 : cS (atL (puts s) g) 5 = if x.st = 5 then 1 else 0
theorem cts (s : SD) (g : Int) (h1 : 1 ≤ g) (h2 : g ≤ s.gs.length) : Cts s g (s.gs.getD (g.toNat - 1) default) := by
  have hE : atL (putsGs 0 s.gs) g = if (s.gs.getD (g.toNat - 1) default).st = 5 then [(8, 0)] else [] := by
    rw [atL_Gs, show (g - 0 - 1).toNat = g.toNat - 1 by omega]
    by_cases e : (s.gs.getD (g.toNat - 1) default).st = 5
    · rw [if_pos e, if_pos ⟨by omega, by omega, e⟩]
    · rw [if_neg e, if_neg (fun q => e q.2.2)]
  have hEc : ∀ k, cS (atL (putsGs 0 s.gs) g) k = if k = 5 then (if (s.gs.getD (g.toNat - 1) default).st = 5 then 1 else 0) else 0 := fun k => by
    rw [hE]
    by_cases e : (s.gs.getD (g.toNat - 1) default).st = 5
    · rw [if_pos e, if_pos e]
      by_cases q : k = 5
      · rw [if_pos q, q]; rfl
      · rw [if_neg q]; simp [cS, statusOf]; omega
    · rw [if_neg e, if_neg e]; simp [cS]
  refine ⟨?_, ?_, ?_, ?_, ?_⟩ <;> rw [places_split] <;> simp only [cS_app, cS_rep, cS_P, cS_M, hEc]
  · simp [statusOf, timesL, runnables]
  · simp [statusOf, timesL]
  · simp [statusOf, timesL, waiters]
    try omega
  · simp [statusOf, timesL]
  · simp [statusOf]

theorem mem_MP {s : SD} {g k n : Int} (hk : k = 4 ∨ k = 7) : (k, n) ∈ atL (puts s) g ↔ (g, k, n) ∈ putsMs 0 s.ms := by
  rw [← mem_atL (L := putsMs 0 s.ms), places_split]
  simp only [List.mem_append]
  constructor
  · rintro (h | h | h | h | h | h | h | h | h)
    · rw [mem_atL] at h
      have := putsPs_kind _ _ _ h
      dsimp only at this; omega
    · have := (List.mem_replicate.1 h).2; cases this; omega
    · have := (List.mem_replicate.1 h).2; cases this; omega
    · have := (List.mem_replicate.1 h).2; cases this; omega
    · have := (List.mem_replicate.1 h).2; cases this; omega
    · have := (List.mem_replicate.1 h).2; cases this; omega
    · have := (List.mem_replicate.1 h).2; cases this; omega
    · exact h
    · rw [atL_Gs] at h
      split at h
      · simp at h; omega
      · simp at h
  · intro h
    exact .inr (.inr (.inr (.inr (.inr (.inr (.inr (.inl h)))))))

def chkL (F : List (Int × Int)) (x : GD) : Bool :=
  match F with
  | [y] => decide (statusOf y.1 = x.st ∧ x.m = if y.1 = 4 ∨ y.1 = 7 then y.2 else 0)
  | _ => false
theorem chkL_iff {F : List (Int × Int)} {x : GD} : chkL F x = true ↔ ∃ y, F = [y] ∧ statusOf y.1 = x.st ∧ x.m = if y.1 = 4 ∨ y.1 = 7 then y.2 else 0 := by
  unfold chkL
  split
  · simp
  · rename_i h
    simp only [Bool.false_eq_true, false_iff]
    rintro ⟨y, rfl, _⟩
    exact h y rfl
theorem cS_one (y : Int × Int) (k : Int) : cS [y] k = if statusOf y.1 = k then 1 else 0 := by
  simp [cS]
theorem status_range (k : Int) : 1 ≤ statusOf k ∧ statusOf k ≤ 5 := by
  unfold statusOf; repeat' split
  all_goals omega
theorem status_2 {k : Int} : statusOf k = 2 ↔ k = 4 := by
  unfold statusOf; repeat' split
  all_goals omega
theorem status_4 {k : Int} : statusOf k = 4 ↔ k = 7 := by
  unfold statusOf; repeat' split
  all_goals omega
theorem stands_iff (s : SD) (g : Int) (h1 : 1 ≤ g) (h2 : g ≤ s.gs.length) : standsB s g = chkL (atL (puts s) g) (s.gs.getD (g.toNat - 1) default) := by
  have hc := cts s g h1 h2
  obtain ⟨x, hx⟩ : ∃ x, x = s.gs.getD (g.toNat - 1) default := ⟨_, rfl⟩
  rw [← hx] at hc ⊢
  obtain ⟨F, hF⟩ : ∃ F, F = atL (puts s) g := ⟨_, rfl⟩
  obtain ⟨c1, c2, c3, c4, c5⟩ := hc
  have hmem : ∀ k n, (k = 4 ∨ k = 7) → ((k, n) ∈ F ↔ (g, k, n) ∈ putsMs 0 s.ms) := fun k n hk => by rw [hF]; exact mem_MP hk
  rw [← hF] at c1 c2 c3 c4 c5 ⊢
  clear hF
  rw [Bool.eq_iff_iff, chkL_iff]
  unfold standsB
  simp only [← hx]
  simp only [Bool.and_eq_true, decide_eq_true_eq, ← c1, ← c2, ← c3, ← c4]
  have hl := cS_len F
  constructor
  · rintro ⟨⟨⟨r1, r2⟩, q1, q2, q3, q4⟩, hm⟩
    have hlen : F.length = 1 := by
      rcases (show x.st = 1 ∨ x.st = 2 ∨ x.st = 3 ∨ x.st = 4 ∨ x.st = 5 by omega) with e | e | e | e | e <;> rw [e] at q1 q2 q3 q4 c5 <;> simp at q1 q2 q3 q4 c5 <;> omega
    obtain ⟨y, rfl⟩ := List.length_eq_one_iff.1 hlen
    have hst : statusOf y.1 = x.st := by
      have := status_range y.1
      simp only [cS_one] at q1 q2 q3 q4 c5
      rcases (show x.st = 1 ∨ x.st = 2 ∨ x.st = 3 ∨ x.st = 4 ∨ x.st = 5 by omega) with e | e | e | e | e <;> rw [e] at q1 q2 q3 q4 c5 ⊢ <;> simp at q1 q2 q3 q4 c5 <;> omega
    refine ⟨y, rfl, hst, ?_⟩
    by_cases hk : y.1 = 4 ∨ y.1 = 7
    · rw [if_pos hk]
      have hs24 : ¬ (x.st ≠ 2 ∧ x.st ≠ 4) := by
        have a2 := @status_2 y.1
        have a4 := @status_4 y.1
        omega
      rw [if_neg hs24] at hm
      simp only [decide_eq_true_eq] at hm
      obtain ⟨m1, m2, m3⟩ := hm
      have hlt : x.m.toNat - 1 < s.ms.length := by omega
      have hget : s.ms[x.m.toNat - 1]? = some (s.ms.getD (x.m.toNat - 1) ⟨0, 0⟩) := by simp [hlt]
      have : ∃ k, (k = 4 ∨ k = 7) ∧ (g, k, x.m) ∈ putsMs 0 s.ms := by
        by_cases hp : (s.ms.getD (x.m.toNat - 1) ⟨0, 0⟩).p = 0
        · exact ⟨7, .inr rfl, (putsMs_mem _ _ _ _ _).2 ⟨_, _, hget, m3, by omega, by omega, .inr ⟨hp, rfl⟩⟩⟩
        · exact ⟨4, .inl rfl, (putsMs_mem _ _ _ _ _).2 ⟨_, _, hget, m3, by omega, by omega, .inl ⟨hp, rfl⟩⟩⟩
      obtain ⟨k, hk', hin⟩ := this
      have := (hmem k x.m hk').2 hin
      simp only [List.mem_singleton] at this
      rw [← this]
    · rw [if_neg hk]
      have hs24 : x.st ≠ 2 ∧ x.st ≠ 4 := by
        have a2 := @status_2 y.1
        have a4 := @status_4 y.1
        omega
      rw [if_pos hs24] at hm
      simpa using hm
  · rintro ⟨y, rfl, hst, hm⟩
    have hr := status_range y.1
    simp only [cS_one] at c1 c2 c3 c4 c5 ⊢
    rw [hst] at c1 c2 c3 c4 c5 hr ⊢
    refine ⟨⟨hr, ?_⟩, ?_⟩
    · refine ⟨?_, ?_, ?_, ?_⟩ <;> split <;> simp
    · by_cases hk : y.1 = 4 ∨ y.1 = 7
      · rw [if_pos hk] at hm
        have hs24 : ¬ (x.st ≠ 2 ∧ x.st ≠ 4) := by
          have a2 := @status_2 y.1
          have a4 := @status_4 y.1
          omega
        rw [if_neg hs24]
        have := (hmem y.1 y.2 hk).1 (by simp)
        obtain ⟨j, m, e1, e2, e3, e4, _⟩ := (putsMs_mem _ _ _ _ _).1 this
        have hj := (List.getElem?_eq_some_iff.1 e1).1
        simp only [decide_eq_true_eq]
        refine ⟨by omega, by omega, ?_⟩
        rw [show x.m.toNat - 1 = j by omega, List.getD_eq_getElem?_getD, e1]
        exact e2
      · rw [if_neg hk] at hm
        have hs24 : x.st ≠ 2 ∧ x.st ≠ 4 := by
          have a2 := @status_2 y.1
          have a4 := @status_4 y.1
          omega
        rw [if_pos hs24]
        simpa using hm

def chkG (M : PM) (i : Int) (x : GD) : Bool := chkL ((findM M (i + 1)).getD []) x
def mayProg (s : SD) : Bool := partsS s && (allI (chkG (allM s)) 0 s.gs && decide ((allM s).length = s.gs.length))
theorem allI_iff {α : Type} (f : Int → α → Bool) : ∀ (l : List α) (i : Int), allI f i l = true ↔ ∀ (j : Nat) x, l[j]? = some x → f (i + j) x = true
  | [], i => by simp [allI]
  | y :: l, i => by
    simp only [allI, Bool.and_eq_true, allI_iff f l (i + 1)]
    constructor
    · rintro ⟨h1, h2⟩ j x hx
      cases j with
      | zero => simp at hx; subst hx; simpa using h1
      | succ j =>
        have := h2 j x (by simpa using hx)
        rwa [show i + ((j + 1 : Nat) : Int) = i + 1 + j by omega]
    · intro h
      refine ⟨by simpa using h 0 y rfl, fun j x hx => ?_⟩
      have := h (j + 1) x (by simpa using hx)
      rwa [show i + ((j + 1 : Nat) : Int) = i + 1 + j by omega] at this
theorem getD_find (s : SD) (g : Int) : (findM (allM s) g).getD [] = atL (puts s) g := by
  unfold allM
  rw [find_all]
  split
  · rename_i h; rw [h]; rfl
  · rfl
theorem puts_in (s : SD) : (∀ x ∈ puts s, 1 ≤ x.1 ∧ x.1 ≤ s.gs.length) ↔ (inB s.gs.length (runnables s) = true ∧ inB s.gs.length (waiters s) = true ∧ inB s.gs.length (onMs s true) = true ∧ inB s.gs.length (onMs s false) = true) := by
  have key : ∀ g : Int, (∃ x ∈ puts s, x.1 = g) ↔ (g ∈ runnables s ∨ g ∈ waiters s ∨ g ∈ onMs s true ∨ g ∈ onMs s false ∨ ∃ x ∈ putsGs 0 s.gs, x.1 = g) := fun g => by
    have e1 : (∃ x ∈ putsPs 0 s.ps, x.1 = g) ↔ g ∈ s.ps.flatMap queueOf := by
      rw [← putsPs_keys s.ps 0]; simp
    have e2 : ∀ k n l, (∃ x ∈ putsK k n l, x.1 = g) ↔ g ∈ l := fun k n l => by
      unfold putsK
      constructor
      · rintro ⟨x, hx, rfl⟩
        obtain ⟨y, hy, rfl⟩ := List.mem_map.1 hx
        exact hy
      · intro h; exact ⟨(g, k, n), List.mem_map.2 ⟨g, h, rfl⟩, rfl⟩
    have e3 : (∃ x ∈ putsT s.ts, x.1 = g) ↔ g ∈ s.ts.map (·.g) := by
      unfold putsT
      constructor
      · rintro ⟨x, hx, rfl⟩
        obtain ⟨y, hy, rfl⟩ := List.mem_map.1 hx
        exact List.mem_map.2 ⟨y, hy, rfl⟩
      · intro h
        obtain ⟨y, hy, rfl⟩ := List.mem_map.1 h
        exact ⟨(y.g, 6, 0), List.mem_map.2 ⟨y, hy, rfl⟩, rfl⟩
    have e4 : (∃ x ∈ putsMs 0 s.ms, x.1 = g) ↔ g ∈ onMs s true ∨ g ∈ onMs s false := by
      constructor
      · rintro ⟨⟨g', k, n⟩, hx, rfl⟩
        obtain ⟨j, m, h1, h2, h3, h4, h5⟩ := (putsMs_mem _ _ _ _ _).1 hx
        have hm := List.mem_of_getElem? h1
        simp only [onMs, List.mem_map, List.mem_filter]
        rcases h5 with ⟨h5, _⟩ | ⟨h5, _⟩
        · exact .inl ⟨m, ⟨hm, by simp [h2, h3, h5]⟩, h2⟩
        · exact .inr ⟨m, ⟨hm, by simp [h2, h3, h5]⟩, h2⟩
      · intro h
        simp only [onMs, List.mem_map, List.mem_filter, Bool.and_eq_true, decide_eq_true_eq, beq_iff_eq] at h
        rcases h with ⟨m, ⟨hm, h1, h2⟩, rfl⟩ | ⟨m, ⟨hm, h1, h2⟩, rfl⟩
        · obtain ⟨j, hj⟩ := List.getElem?_of_mem hm
          exact ⟨(m.g, 4, 0 + j + 1), (putsMs_mem _ _ _ _ _).2 ⟨j, m, hj, rfl, h1, rfl, .inl ⟨by simpa using h2, rfl⟩⟩, rfl⟩
        · obtain ⟨j, hj⟩ := List.getElem?_of_mem hm
          exact ⟨(m.g, 7, 0 + j + 1), (putsMs_mem _ _ _ _ _).2 ⟨j, m, hj, rfl, h1, rfl, .inr ⟨by simpa using h2, rfl⟩⟩, rfl⟩
    simp only [puts, putsW, putsR, List.mem_append, or_and_right, exists_or, e1, e2, e3, e4, runnables, waiters]
    constructor
    · rintro (h | h | h | h | h | h | h | (h | h) | h) <;> simp [h]
    · rintro ((h | h) | ((((h | h) | h) | h) | h) | h | h | h) <;> simp [h]
  have hG : ∀ x ∈ putsGs 0 s.gs, 1 ≤ x.1 ∧ x.1 ≤ s.gs.length := by
    rintro ⟨g, k, n⟩ hx
    rw [← mem_atL, atL_Gs] at hx
    split at hx
    · rename_i h; dsimp only; omega
    · simp at hx
  simp only [inB, List.all_eq_true, decide_eq_true_eq]
  constructor
  · intro h
    refine ⟨fun g hg => ?_, fun g hg => ?_, fun g hg => ?_, fun g hg => ?_⟩
    all_goals
      obtain ⟨x, hx, rfl⟩ := (key g).2 (by simp [hg])
      exact h x hx
  · rintro ⟨h1, h2, h3, h4⟩ x hx
    rcases (key x.1).1 ⟨x, hx, rfl⟩ with h | h | h | h | ⟨y, hy, e⟩
    · exact h1 _ h
    · exact h2 _ h
    · exact h3 _ h
    · exact h4 _ h
    · rw [← e]; exact hG y hy
theorem may_prog (s : SD) : mayS s = mayProg s := by
  rw [mayS_parts]
  unfold mayProg
  congr 1
  have hst : ((List.range s.gs.length).all fun j : Nat => standsB s (j + 1)) = allI (chkG (allM s)) 0 s.gs := by
    rw [Bool.eq_iff_iff, allI_iff]
    simp only [List.all_eq_true, List.mem_range]
    constructor
    · intro h j x hx
      obtain ⟨hj, rfl⟩ := List.getElem?_eq_some_iff.1 hx
      have := h j hj
      rw [stands_iff s _ (by omega) (by omega)] at this
      unfold chkG
      rw [getD_find, show (0 : Int) + j + 1 = j + 1 by omega]
      rwa [show ((j : Int) + 1).toNat - 1 = j by omega, List.getD_eq_getElem?_getD, hx, Option.getD_some] at this
    · intro h j hj
      have := h j s.gs[j] (by simp [hj])
      rw [stands_iff s _ (by omega) (by omega)]
      unfold chkG at this
      rw [getD_find, show (0 : Int) + j + 1 = j + 1 by omega] at this
      rwa [show ((j : Int) + 1).toNat - 1 = j by omega, List.getD_eq_getElem?_getD, List.getElem?_eq_getElem hj, Option.getD_some]
  rw [hst]
  cases hall : allI (chkG (allM s)) 0 s.gs with
  | false => simp
  | true =>
    have hne : ∀ g, 1 ≤ g → g ≤ (s.gs.length : Int) → atL (puts s) g ≠ [] := fun g h1 h2 q => by
      have := (allI_iff _ _ _).1 hall (g - 1).toNat (s.gs[(g - 1).toNat]'(by omega)) (by simp <;> omega)
      unfold chkG at this
      rw [getD_find, show (0 : Int) + ((g - 1).toNat : Int) + 1 = g by omega, q] at this
      cases this
    have hk := keys_count (L := puts s) (n := s.gs.length) hne
    rw [puts_in] at hk
    simp only [Bool.and_true, Bool.true_and]
    rw [Bool.eq_iff_iff]
    simp only [Bool.and_eq_true, decide_eq_true_eq]
    exact hk.symm

theorem atPs_head : ∀ (l : List PD) (i g : Int), g ≠ 0 → atPs i l g = (atL (putsPs i l) g).headD (3, 0)
  | [], _, _, _ => rfl
  | p :: l, i, g, hg => by
    have hR : atL ((listR p.r).map fun x => (x, 2, i + 1)) g = List.replicate ((listR p.r).count g) (2, i + 1) := atL_K 2 (i + 1) (listR p.r) g
    simp only [atPs, putsPs, putsP, atL_app, hR, atPs_head l (i + 1) g hg, timesL]
    by_cases h1 : p.nx = g
    · rw [if_pos h1, if_neg (by omega)]
      simp [atL, h1]
    · rw [if_neg h1]
      have e : atL (if p.nx = 0 then [] else [(p.nx, 1, i + 1)]) g = [] := by
        split <;> simp [atL, h1]
      rw [e, List.nil_append]
      by_cases h2 : 0 < ((listR p.r).count g : Int)
      · rw [if_pos h2]
        obtain ⟨n, hn⟩ : ∃ n, (listR p.r).count g = n + 1 := ⟨(listR p.r).count g - 1, by omega⟩
        rw [hn]; rfl
      · rw [if_neg h2, show (listR p.r).count g = 0 by omega]; rfl
theorem place_prog (s : SD) (g : Int) (h1 : 1 ≤ g) (h2 : g ≤ s.gs.length) (hm : mayS s = true) : atL (puts s) g = [placeS s g] := by
  have hp := hm
  rw [may_prog] at hp
  unfold mayProg at hp
  simp only [Bool.and_eq_true] at hp
  have hc := (allI_iff _ _ _).1 hp.2.1 (g - 1).toNat (s.gs[(g - 1).toNat]'(by omega)) (by simp <;> omega)
  unfold chkG at hc
  rw [getD_find, show (0 : Int) + ((g - 1).toNat : Int) + 1 = g by omega, chkL_iff] at hc
  obtain ⟨y, hF, hst, hmm⟩ := hc
  have hx : s.gs.getD (g.toNat - 1) default = s.gs[(g - 1).toNat]'(by omega) := by
    rw [List.getD_eq_getElem?_getD, show g.toNat - 1 = (g - 1).toNat by omega, List.getElem?_eq_getElem (by omega)]; rfl
  have hct := cts s g h1 h2
  rw [hx] at hct
  obtain ⟨x, hxx⟩ : ∃ x, x = s.gs[(g - 1).toNat]'(by omega) := ⟨_, rfl⟩
  rw [← hxx] at hst hmm hct hx
  have hmem : placeS s g ∈ atL (puts s) g := by
    unfold placeS
    rw [if_neg (by rw [hm]; simp; omega)]
    simp only [hx]
    have hr := status_range y.1
    rw [hst] at hr
    obtain ⟨c1, c2, c3, c4, c5⟩ := hct
    rw [hF] at c1 c2 c3 c4 c5
    simp only [cS_one, hst] at c1 c2 c3 c4 c5
    have hy : y ∈ atL (puts s) g := by rw [hF]; simp
    have a2 := @status_2 y.1
    have a4 := @status_4 y.1
    rw [hst] at a2 a4
    rcases (show x.st = 1 ∨ x.st = 2 ∨ x.st = 3 ∨ x.st = 4 ∨ x.st = 5 by omega) with e | e | e | e | e
    · rw [if_pos e, atPs_head _ _ _ (by omega), places_split]
      rw [if_pos e] at c1
      cases hfp : atL (putsPs 0 s.ps) g with
      | cons z l => simp
      | nil =>
        have : (s.ps.flatMap queueOf).count g = 0 := by rw [← putsPs_keys s.ps 0, ← atL_len, hfp]; rfl
        have : 0 < s.gl.count g := by
          simp only [timesL, runnables, List.count_append, this] at c1; omega
        simp only [List.headD, List.mem_append]
        exact .inr (.inl (List.mem_replicate.2 ⟨by omega, rfl⟩))
    · rw [if_neg (by omega), if_pos e]
      have : y = (4, x.m) := by
        rw [if_pos (.inl (a2.1 e))] at hmm
        rw [hmm, ← a2.1 e]
      rw [← this]; exact hy
    · rw [if_neg (by omega), if_neg (by omega), if_neg (by omega), if_neg (by omega)]
      rw [if_pos e] at c3
      rw [places_split]
      simp only [timesL, waiters, List.count_append] at c3
      simp only [List.mem_append]
      have hin : ∀ (z : Int × Int) (n : Nat), 0 < n → z ∈ List.replicate n z := fun z n h => List.mem_replicate.2 ⟨by omega, rfl⟩
      by_cases d0 : 0 < timesL s.w0 g
      · rw [if_pos d0]; exact .inr (.inr (.inl (hin _ _ (by unfold timesL at d0; omega))))
      rw [if_neg d0]
      by_cases d1 : 0 < timesL s.w1 g
      · rw [if_pos d1]; exact .inr (.inr (.inr (.inl (hin _ _ (by unfold timesL at d1; omega)))))
      rw [if_neg d1]
      by_cases d2 : 0 < timesL s.w2 g
      · rw [if_pos d2]; exact .inr (.inr (.inr (.inr (.inl (hin _ _ (by unfold timesL at d2; omega))))))
      rw [if_neg d2]
      by_cases d3 : 0 < timesL s.w3 g
      · rw [if_pos d3]; exact .inr (.inr (.inr (.inr (.inr (.inl (hin _ _ (by unfold timesL at d3; omega)))))))
      rw [if_neg d3]
      exact .inr (.inr (.inr (.inr (.inr (.inr (.inl (hin _ _ (by unfold timesL at d0 d1 d2 d3; omega))))))))
    · rw [if_neg (by omega), if_neg (by omega), if_pos e]
      have : y = (7, x.m) := by
        rw [if_pos (.inr (a4.1 e))] at hmm
        rw [hmm, ← a4.1 e]
      rw [← this]; exact hy
    · rw [if_neg (by omega), if_neg (by omega), if_neg (by omega), if_pos e, places_split]
      simp only [List.mem_append]
      refine .inr (.inr (.inr (.inr (.inr (.inr (.inr (.inr ?_)))))))
      rw [atL_Gs, show (g - 0 - 1).toNat = g.toNat - 1 by omega, hx, if_pos ⟨by omega, by omega, e⟩]; simp
  rw [hF] at hmem ⊢
  simp only [List.mem_singleton] at hmem
  rw [hmem]
end Go.Ab

namespace Go.Ab
open Go Go.Proofs
set_option maxRecDepth 100000

theorem uM_find (M : PM) (g : Int) (l : List (Int × Int)) (h : findM M g = some l) : (match mfind (.int .i64 g) (kM M) (uM M) with | some v => v.unown | none => .nils 2) = .sl true 2 (l.map plC) := by
  have := find_kv M g
  rw [h] at this
  rw [← unown_vM]
  unfold mfind at this ⊢
  cases hm : midx (.int .i64 g) (kM M) with
  | none => rw [hm] at this; cases this
  | some j =>
    rw [hm] at this
    simp only [Option.bind_some, Option.map_some] at this
    simp only [Option.bind_some, List.getElem?_map, this, Option.map_some, V.unown]
theorem uM_none (M : PM) (g : Int) (h : findM M g = none) : (match mfind (.int .i64 g) (kM M) (uM M) with | some v => v.unown | none => .nils 2) = .nils 2 := by
  have := find_kv M g
  rw [h] at this
  rw [← unown_vM]
  unfold mfind at this ⊢
  cases hm : midx (.int .i64 g) (kM M) with
  | none => rfl
  | some j =>
    rw [hm] at this
    simp only [Option.bind_some, Option.map_none] at this
    simp only [Option.bind_some, List.getElem?_map, this, Option.map_none]
theorem kM_like (M : PM) : ∀ y ∈ kM M, (V.int .i64 0).keyLike y = true := fun y hy => by
  obtain ⟨e, _, rfl⟩ := List.mem_map.1 hy
  rfl
theorem rings_of_parts {s : SD} (h : partsS s = true) : ∀ p ∈ s.ps, mayR p.r = true := by
  unfold partsS at h
  simp only [Bool.and_eq_true] at h
  intro p hp
  obtain ⟨j, hj⟩ := List.getElem?_of_mem hp
  have := (allI_iff _ _ _).1 h.2.2.2.2.2.1 j p hj
  unfold okP at this
  simp only [Bool.and_eq_true] at this
  exact this.1

set_option maxHeartbeats 8000000 in
theorem c14 (s : SD) (hs : Fit s) (b : Bool) (hb : b = mayS s) : CallsV Try.prog 14 [.agg (stC s)] (.bool b) [.undef] true := by
  rw [may_prog] at hb
  unfold mayProg at hb
  obtain ⟨bp, hbp⟩ : ∃ z, z = partsS s := ⟨_, rfl⟩
  have cp := c31 s hs bp hbp
  rw [← hbp] at hb
  cases bp with
  | false =>
    clear hbp hs
    obtain ⟨prog, gs, ps, ms, gl, c0, c1, c2, c3, w0, w1, w2, w3, ts, ck, pr⟩ := s
    obtain ⟨rp, rg, rq, rm, rl, r0, r1, r2, r3, rt, ⟨h_rp, s_rp, l_rp⟩, ⟨h_rg, s_rg, l_rg⟩, ⟨h_rq, s_rq, l_rq⟩, ⟨h_rm, s_rm, l_rm⟩, ⟨h_rl, s_rl, l_rl⟩, ⟨h_r0, s_r0, l_r0⟩, ⟨h_r1, s_r1, l_r1⟩, ⟨h_r2, s_r2, l_r2⟩, ⟨h_r3, s_r3, l_r3⟩, ⟨h_rt, s_rt, l_rt⟩, hst_⟩ := stR prog gs ps ms gl c0 c1 c2 c3 w0 w1 w2 w3 ts ck pr
    dsimp only at hb
    rw [hst_] at cp ⊢
    refine callsV_q hD Try.func14 ok14x rfl rfl (by simp only [List.map_cons, List.map_nil, V.sh, V.shL, stL, s_rp, s_rg, s_rq, s_rm, s_rl, s_r0, s_r1, s_r2, s_r3, s_rt]) fun P Q hP hQ => ?_
    clear hst_
    try rw [← hP] at cp
    repeat' (cbv; first | refine .y ?_ | refine .n ?_ | refine .split (fun hc => ?_) fun hc => ?_ | refine EqQ.ints rfl (fun hc => ?_) fun hc => ?_ | refine .go cp ?_ | refine .wa fun v hv => ?_ | refine .ra fun v hv => ?_ | refine .qa fun v hv => ?_ | refine .len fun v hv => ?_ | refine .all True.intro fun v hv => ?_ | refine Lt.to (by decide) rfl ?_ | (refine .au fun vr vn hvr hvn hvl => ?_; try simp only [List.length_cons, List.length_nil] at hvl) | fail)
    all_goals (try cbv)
    have hbe : b = false := by exact hb
    subst hbe; refine hQ _ ?_; exact ⟨rfl, rfl, rfl, rfl, rfl⟩
  | true =>
    have ca := c32 s hs (rings_of_parts hbp.symm)
    have hgs := hs.gs
    obtain ⟨M, hM⟩ : ∃ M, M = allM s := ⟨_, rfl⟩
    rw [← hM] at hb ca
    clear hM hbp hs
    rw [Bool.true_and] at hb
    have hfs := uM_find M
    have hfn := uM_none M
    have hlk := kM_like M
    obtain ⟨ks, hks⟩ : ∃ k, k = kM M := ⟨_, rfl⟩
    obtain ⟨us, hus⟩ : ∃ k, k = uM M := ⟨_, rfl⟩
    have lks : ks.length = M.length := by rw [hks]; simp [kM]
    rw [← hks] at ca hfs hfn hlk
    rw [← hus] at ca hfs hfn
    clear hks hus
    obtain ⟨prog, gs, ps, ms, gl, c0, c1, c2, c3, w0, w1, w2, w3, ts, ck, pr⟩ := s
    obtain ⟨rp, rg, rq, rm, rl, r0, r1, r2, r3, rt, ⟨h_rp, s_rp, l_rp⟩, ⟨h_rg, s_rg, l_rg⟩, ⟨h_rq, s_rq, l_rq⟩, ⟨h_rm, s_rm, l_rm⟩, ⟨h_rl, s_rl, l_rl⟩, ⟨h_r0, s_r0, l_r0⟩, ⟨h_r1, s_r1, l_r1⟩, ⟨h_r2, s_r2, l_r2⟩, ⟨h_r3, s_r3, l_r3⟩, ⟨h_rt, s_rt, l_rt⟩, hst_⟩ := stR prog gs ps ms gl c0 c1 c2 c3 w0 w1 w2 w3 ts ck pr
    dsimp only at hb hgs
    rw [hst_] at cp ca ⊢
    refine callsV_q hD Try.func14 ok14x rfl rfl (by simp only [List.map_cons, List.map_nil, V.sh, V.shL, stL, s_rp, s_rg, s_rq, s_rm, s_rl, s_r0, s_r1, s_r2, s_r3, s_rt]) fun P Q hP hQ => ?_
    clear hst_ h_rp h_rq h_rm h_rl h_r0 h_r1 h_r2 h_r3 h_rt
    obtain ⟨mg, hmg⟩ : ∃ n : Int, 0 ≤ n ∧ n.toNat = rg.length := ⟨rg.length, by omega, by omega⟩
    try rw [← hP] at cp
    try rw [← hP] at ca
    repeat' (cbv; first | refine .y ?_ | refine .n ?_ | refine .split (fun hc => ?_) fun hc => ?_ | refine EqQ.ints rfl (fun hc => ?_) fun hc => ?_ | refine .go cp ?_ | refine .go ca ?_ | refine .ln hmg ?_ | refine .wa fun v hv => ?_ | refine .ra fun v hv => ?_ | refine .qa fun v hv => ?_ | refine .len fun v hv => ?_ | refine .all True.intro fun v hv => ?_ | refine Lt.to (by decide) rfl ?_ | (refine .au fun vr vn hvr hvn hvl => ?_; try simp only [List.length_cons, List.length_nil] at hvl) | fail)
    all_goals (try cbv)
    obtain ⟨n, hn⟩ : ∃ n : Int, n = (M.length : Int) := ⟨_, rfl⟩
    have hgm : (decide (M.length = gs.length)) = decide (n = mg) := decide_eq_decide.2 (by omega)
    have lks' : 0 ≤ n ∧ n.toNat = ks.length := by omega
    rw [hgm] at hb
    clear hgm lks hn ca cp
    refine LoopQ.to (ι := Int) (fun i => ⟨tab .undef [(1, .ptr 100 0), (3, .mp 101), (14, .sl false 5 rg), (15, .int .i64 mg), (16, .int .i64 i)], tab .dead [(100, .box (stL rp rg rq rm rl c0 c1 c2 c3 r0 r1 r2 r3 rt ck pr)), (101, .mp ks us)]⟩)
      (fun i => 0 ≤ i ∧ i.toNat ≤ gs.length ∧ b = (allI (chkG M) i (gs.drop i.toNat) && decide (n = mg))) (fun i => gs.length - i.toNat) 0 ⟨by omega, by omega, hb⟩ rfl fun i ⟨i0, i1, hi⟩ A hA => ?_
    clear hb
    rcases drop_cases i1 with ⟨e, hd⟩ | ⟨hlt, x, hd, hx⟩
    · rw [hd] at hi
      clear hA hd
      rw [allI, Bool.true_and] at hi
      repeat' (cbv; first | refine .y ?_ | refine .n ?_ | refine .split (fun hc => ?_) fun hc => ?_ | refine EqQ.ints rfl (fun hc => ?_) fun hc => ?_ | refine .ln hmg ?_ | refine .ln lks' ?_ | refine .wa fun v hv => ?_ | refine .ra fun v hv => ?_ | refine .qa fun v hv => ?_ | refine .len fun v hv => ?_ | refine .all True.intro fun v hv => ?_ | refine Lt.to (by decide) rfl ?_ | (refine .au fun vr vn hvr hvn hvl => ?_; try simp only [List.length_cons, List.length_nil] at hvl) | fail)
      all_goals (try cbv)
      · have hbe : b = true := by rw [hi]; exact decide_eq_true (by omega)
        subst hbe; refine hQ _ ?_; exact ⟨rfl, rfl, rfl, rfl, rfl⟩
      · have hbe : b = false := by rw [hi]; exact decide_eq_false (by omega)
        subst hbe; refine hQ _ ?_; exact ⟨rfl, rfl, rfl, rfl, rfl⟩
    · rw [hd, allI, Bool.and_assoc] at hi
      have ga := getD_rows h_rg hx
      have lx : x.st = x.st := rfl
      obtain ⟨j, hj⟩ : ∃ j : Int, j = i + 1 := ⟨_, rfl⟩
      unfold chkG at hi
      rw [← hj] at hi
      have hneed : (V.int .i64 0).keyLike (V.int .i64 j) = true ∧ ∀ y ∈ ks, (V.int .i64 0).keyLike y = true := ⟨rfl, hlk⟩
      obtain ⟨T, hT⟩ : ∃ T, T = (allI (chkG M) j (gs.drop (i.toNat + 1)) && decide (n = mg)) := ⟨_, rfl⟩
      rw [show (allI (fun i x => chkL ((findM M (i + 1)).getD []) x) j (gs.drop (i.toNat + 1)) && decide (n = mg)) = T from hT.symm] at hi
      have hnext : b = T → 0 ≤ j ∧ j.toNat ≤ gs.length ∧ b = (allI (chkG M) j (gs.drop j.toNat) && decide (n = mg)) := fun e => ⟨by omega, by omega, by rw [e, hT, show j.toNat = i.toNat + 1 by omega]⟩
      have hless : gs.length - j.toNat < gs.length - i.toNat := by omega
      clear hT hd hx lks' hlk
      cases hf : findM M j with
      | none =>
        have hget := hfn j hf
        rw [hf] at hi
        replace hi : b = false := hi
        clear hfn hfs hf hnext
        repeat' (cbv; first | refine .y ?_ | refine .n ?_ | refine .split (fun hc => ?_) fun hc => ?_ | refine EqQ.ints rfl (fun hc => ?_) fun hc => ?_ | refine .row ga ?_ | refine .wn hj ?_ | refine Lt.to hneed hget ?_ | refine .wa fun v hv => ?_ | refine .ra fun v hv => ?_ | refine .qa fun v hv => ?_ | refine .len fun v hv => ?_ | refine .all True.intro fun v hv => ?_ | refine Lt.to (by decide) rfl ?_ | (refine .au fun vr vn hvr hvn hvl => ?_; try simp only [List.length_cons, List.length_nil] at hvl) | fail)
        all_goals (try cbv)
        have hbe : b = false := by exact hi
        subst hbe; refine hQ _ ?_; exact ⟨rfl, rfl, rfl, rfl, rfl⟩
      | some l =>
        have hget := hfs j l hf
        rw [hf] at hi
        clear hfn hfs hf
        rw [Option.getD_some] at hi
        cases l with
        | nil =>
          replace hi : b = false := hi
          clear hnext
          have h0 : (0 : Int) ≤ 0 ∧ (0 : Int).toNat = ([] : List (List V)).length := ⟨by omega, rfl⟩
          repeat' (cbv; first | refine .y ?_ | refine .n ?_ | refine .split (fun hc => ?_) fun hc => ?_ | refine EqQ.ints rfl (fun hc => ?_) fun hc => ?_ | refine .ln h0 ?_ | refine .row ga ?_ | refine .wn hj ?_ | refine Lt.to hneed hget ?_ | refine .wa fun v hv => ?_ | refine .ra fun v hv => ?_ | refine .qa fun v hv => ?_ | refine .len fun v hv => ?_ | refine .all True.intro fun v hv => ?_ | refine Lt.to (by decide) rfl ?_ | (refine .au fun vr vn hvr hvn hvl => ?_; try simp only [List.length_cons, List.length_nil] at hvl) | fail)
          all_goals (try cbv)
          have hbe : b = false := by exact hi
          subst hbe; refine hQ _ ?_; exact ⟨rfl, rfl, rfl, rfl, rfl⟩
        | cons y l =>
        cases l with
        | cons y2 l =>
          replace hi : b = false := hi
          obtain ⟨rl, hrl⟩ : ∃ r, r = (y :: y2 :: l).map plC := ⟨_, rfl⟩
          have lrl : 2 ≤ rl.length := by rw [hrl]; simp
          rw [← hrl] at hget
          clear hnext hrl
          repeat' (cbv; first | refine .y ?_ | refine .n ?_ | refine .split (fun hc => ?_) fun hc => ?_ | refine EqQ.ints rfl (fun hc => ?_) fun hc => ?_ | refine .row ga ?_ | refine .wn hj ?_ | refine Lt.to hneed hget ?_ | refine .wa fun v hv => ?_ | refine .ra fun v hv => ?_ | refine .qa fun v hv => ?_ | refine .len fun v hv => ?_ | refine .all True.intro fun v hv => ?_ | refine Lt.to (by decide) rfl ?_ | (refine .au fun vr vn hvr hvn hvl => ?_; try simp only [List.length_cons, List.length_nil] at hvl) | fail)
          all_goals (try cbv)
          have hbe : b = false := by exact hi
          subst hbe; refine hQ _ ?_; exact ⟨rfl, rfl, rfl, rfl, rfl⟩
        | nil =>
          obtain ⟨yk, yn⟩ := y
          obtain ⟨x1, x2, x3, x4, x5⟩ := x
          obtain ⟨z, hz⟩ : ∃ z, z = statusOf yk := ⟨_, rfl⟩
          have cz := c33 (yk, yn) z hz
          unfold chkL at hi
          dsimp only at hi
          rw [← hz] at hi
          clear hz
          have h1 : (0 : Int) ≤ 1 ∧ (1 : Int).toNat = ([[V.int .i64 yk, V.int .i64 yn]] : List (List V)).length := ⟨by omega, rfl⟩
          have hr1 : 2 = 2 ∧ (0 : Int) ≤ 0 ∧ (0 : Int).toNat < ([[V.int .i64 yk, V.int .i64 yn]] : List (List V)).length := ⟨rfl, by omega, Nat.zero_lt_one⟩
          have hr2 : ([[V.int .i64 yk, V.int .i64 yn]] : List (List V)).getD (0 : Int).toNat [] = [V.int .i64 yk, V.int .i64 yn] := rfl
          by_cases hst : z = x3
          · subst hst
            by_cases hk : yk = 4 ∨ yk = 7
            · rw [if_pos hk] at hi
              by_cases hm : x4 = yn
              · subst hm
                simp only [true_and, decide_true, Bool.true_and] at hi
                have hnx := hnext hi
                clear hnext hi
                rcases hk with rfl | rfl
                all_goals
                  try rw [← hP] at cz
                  repeat' (cbv; first | refine .y ?_ | refine .n ?_ | refine .split (fun hc => ?_) fun hc => ?_ | refine EqQ.ints rfl (fun hc => ?_) fun hc => ?_ | refine .row ga ?_ | refine .wn hj ?_ | refine Lt.to hneed hget ?_ | refine .ln h1 ?_ | refine Lt.to hr1 hr2 ?_ | refine .go cz ?_ | refine .wa fun v hv => ?_ | refine .ra fun v hv => ?_ | refine .qa fun v hv => ?_ | refine .len fun v hv => ?_ | refine .all True.intro fun v hv => ?_ | refine Lt.to (by decide) rfl ?_ | (refine .au fun vr vn hvr hvn hvl => ?_; try simp only [List.length_cons, List.length_nil] at hvl) | fail)
                  all_goals (try cbv)
                  exact hA j _ hnx hless rfl
              · rw [decide_eq_false (fun q => hm q.2)] at hi
                replace hi : b = false := hi
                clear hnext
                rcases hk with rfl | rfl
                all_goals
                  try rw [← hP] at cz
                  repeat' (cbv; first | refine .y ?_ | refine .n ?_ | refine .split (fun hc => ?_) fun hc => ?_ | refine EqQ.ints rfl (fun hc => ?_) fun hc => ?_ | refine .row ga ?_ | refine .wn hj ?_ | refine Lt.to hneed hget ?_ | refine .ln h1 ?_ | refine Lt.to hr1 hr2 ?_ | refine .go cz ?_ | refine .wa fun v hv => ?_ | refine .ra fun v hv => ?_ | refine .qa fun v hv => ?_ | refine .len fun v hv => ?_ | refine .all True.intro fun v hv => ?_ | refine Lt.to (by decide) rfl ?_ | (refine .au fun vr vn hvr hvn hvl => ?_; try simp only [List.length_cons, List.length_nil] at hvl) | fail)
                  all_goals (try cbv)
                  have hbe : b = false := by exact hi
                  subst hbe; refine hQ _ ?_; exact ⟨rfl, rfl, rfl, rfl, rfl⟩
            · rw [if_neg hk] at hi
              have hk4 : yk ≠ 4 := fun q => hk (.inl q)
              have hk7 : yk ≠ 7 := fun q => hk (.inr q)
              clear hk
              by_cases hm : x4 = 0
              · subst hm
                simp only [true_and, decide_true, Bool.true_and] at hi
                have hnx := hnext hi
                clear hnext hi
                try rw [← hP] at cz
                repeat' (cbv; first | refine .y ?_ | refine .n ?_ | refine .split (fun hc => ?_) fun hc => ?_ | refine EqQ.ints rfl (fun hc => ?_) fun hc => ?_ | refine .row ga ?_ | refine .wn hj ?_ | refine Lt.to hneed hget ?_ | refine .ln h1 ?_ | refine Lt.to hr1 hr2 ?_ | refine .go cz ?_ | refine .wa fun v hv => ?_ | refine .ra fun v hv => ?_ | refine .qa fun v hv => ?_ | refine .len fun v hv => ?_ | refine .all True.intro fun v hv => ?_ | refine Lt.to (by decide) rfl ?_ | (refine .au fun vr vn hvr hvn hvl => ?_; try simp only [List.length_cons, List.length_nil] at hvl) | fail)
                all_goals (try cbv)
                exact hA j _ hnx hless rfl
              · rw [decide_eq_false (fun q => hm q.2)] at hi
                replace hi : b = false := hi
                clear hnext
                try rw [← hP] at cz
                repeat' (cbv; first | refine .y ?_ | refine .n ?_ | refine .split (fun hc => ?_) fun hc => ?_ | refine EqQ.ints rfl (fun hc => ?_) fun hc => ?_ | refine .row ga ?_ | refine .wn hj ?_ | refine Lt.to hneed hget ?_ | refine .ln h1 ?_ | refine Lt.to hr1 hr2 ?_ | refine .go cz ?_ | refine .wa fun v hv => ?_ | refine .ra fun v hv => ?_ | refine .qa fun v hv => ?_ | refine .len fun v hv => ?_ | refine .all True.intro fun v hv => ?_ | refine Lt.to (by decide) rfl ?_ | (refine .au fun vr vn hvr hvn hvl => ?_; try simp only [List.length_cons, List.length_nil] at hvl) | fail)
                all_goals (try cbv)
                have hbe : b = false := by exact hi
                subst hbe; refine hQ _ ?_; exact ⟨rfl, rfl, rfl, rfl, rfl⟩
          · rw [decide_eq_false (fun q => hst q.1)] at hi
            replace hi : b = false := hi
            clear hnext
            try rw [← hP] at cz
            repeat' (cbv; first | refine .y ?_ | refine .n ?_ | refine .split (fun hc => ?_) fun hc => ?_ | refine EqQ.ints rfl (fun hc => ?_) fun hc => ?_ | refine .row ga ?_ | refine .wn hj ?_ | refine Lt.to hneed hget ?_ | refine .ln h1 ?_ | refine Lt.to hr1 hr2 ?_ | refine .go cz ?_ | refine .wa fun v hv => ?_ | refine .ra fun v hv => ?_ | refine .qa fun v hv => ?_ | refine .len fun v hv => ?_ | refine .all True.intro fun v hv => ?_ | refine Lt.to (by decide) rfl ?_ | (refine .au fun vr vn hvr hvn hvl => ?_; try simp only [List.length_cons, List.length_nil] at hvl) | fail)
            all_goals (try cbv)
            have hbe : b = false := by exact hi
            subst hbe; refine hQ _ ?_; exact ⟨rfl, rfl, rfl, rfl, rfl⟩
end Go.Ab

namespace Go.Ab
open Go Go.Proofs
set_option maxRecDepth 100000

theorem may_len {s : SD} (h : mayS s = true) : s.gs.length ≤ 1000 ∧ s.ps.length = 8 ∧ s.pr ≤ 8 ∧ partsS s = true := by
  have h2 := h
  rw [mayS_parts] at h2
  simp only [Bool.and_eq_true] at h2
  have h3 := h2.1
  unfold partsS at h3
  simp only [Bool.and_eq_true, decide_eq_true_eq] at h3
  exact ⟨h3.2.1.2.1, h3.2.1.2.2.1, h3.2.1.2.2.2.2.1, h2.1⟩

set_option maxHeartbeats 8000000 in
theorem c16 (s : SD) (hs : Fit s) (g : Int) (z : Int × Int) (hz : z = placeS s g) : CallsV Try.prog 16 [.agg (stC s), .int .i64 g] (.agg (plC z)) [.undef, .undef] true := by
  obtain ⟨bm, hbm⟩ : ∃ b, b = mayS s := ⟨_, rfl⟩
  have cm := c14 s hs bm hbm
  have hgs := hs.gs
  by_cases hc : ¬ (1 ≤ g ∧ g.toNat ≤ s.gs.length) ∨ mayS s = false
  · unfold placeS at hz
    rw [if_pos hc] at hz
    rw [← hbm] at hc
    clear hbm hs
    subst hz
    obtain ⟨prog, gs, ps, ms, gl, c0, c1, c2, c3, w0, w1, w2, w3, ts, ck, pr⟩ := s
    obtain ⟨rp, rg, rq, rm, rl, r0, r1, r2, r3, rt, ⟨h_rp, s_rp, l_rp⟩, ⟨h_rg, s_rg, l_rg⟩, ⟨h_rq, s_rq, l_rq⟩, ⟨h_rm, s_rm, l_rm⟩, ⟨h_rl, s_rl, l_rl⟩, ⟨h_r0, s_r0, l_r0⟩, ⟨h_r1, s_r1, l_r1⟩, ⟨h_r2, s_r2, l_r2⟩, ⟨h_r3, s_r3, l_r3⟩, ⟨h_rt, s_rt, l_rt⟩, hst_⟩ := stR prog gs ps ms gl c0 c1 c2 c3 w0 w1 w2 w3 ts ck pr
    dsimp only at hc hgs
    rw [hst_] at cm ⊢
    refine callsV_q hD Try.func16 ok16x rfl rfl (by simp only [List.map_cons, List.map_nil, V.sh, V.shL, stL, s_rp, s_rg, s_rq, s_rm, s_rl, s_r0, s_r1, s_r2, s_r3, s_rt]) fun P Q hP hQ => ?_
    clear hst_
    obtain ⟨mg, hmg⟩ : ∃ n : Int, 0 ≤ n ∧ n.toNat = rg.length := ⟨rg.length, by omega, by omega⟩
    by_cases hg : 1 ≤ g ∧ g.toNat ≤ gs.length
    · obtain rfl : bm = false := hc.elim (fun h => absurd hg h) id
      clear hc
      try rw [← hP] at cm
      repeat' (cbv; first | refine .y ?_ | refine .n ?_ | refine .split (fun hc => ?_) fun hc => ?_ | refine EqQ.ints rfl (fun hc => ?_) fun hc => ?_ | refine .go cm ?_ | refine .ln hmg ?_ | refine .wa fun v hv => ?_ | refine .ra fun v hv => ?_ | refine .qa fun v hv => ?_ | refine .len fun v hv => ?_ | refine .all True.intro fun v hv => ?_ | refine Lt.to (by decide) rfl ?_ | (refine .au fun vr vn hvr hvn hvl => ?_; try simp only [List.length_cons, List.length_nil] at hvl) | fail)
      all_goals (try cbv)
      (refine hQ _ ?_; exact ⟨rfl, rfl, rfl, rfl, rfl⟩)
    · clear hc
      have hg' : g < 1 ∨ mg < g := by omega
      clear hg
      rcases hg' with hg | hg
      all_goals
        repeat' (cbv; first | refine .y ?_ | refine .n ?_ | refine .split (fun hc => ?_) fun hc => ?_ | refine EqQ.ints rfl (fun hc => ?_) fun hc => ?_ | refine .ln hmg ?_ | refine .wa fun v hv => ?_ | refine .ra fun v hv => ?_ | refine .qa fun v hv => ?_ | refine .len fun v hv => ?_ | refine .all True.intro fun v hv => ?_ | refine Lt.to (by decide) rfl ?_ | (refine .au fun vr vn hvr hvn hvl => ?_; try simp only [List.length_cons, List.length_nil] at hvl) | fail)
        all_goals (try cbv)
        all_goals first
          | (refine hQ _ ?_; exact ⟨rfl, rfl, rfl, rfl, rfl⟩)
          | (exfalso; omega)
  · have hm : mayS s = true := by cases h : mayS s <;> simp_all
    rw [hm] at hbm
    subst hbm
    have hg : 1 ≤ g ∧ g.toNat ≤ s.gs.length := by simp only [not_or, Classical.not_not] at hc; exact hc.1
    have ca := c32 s hs (rings_of_parts (may_len hm).2.2.2)
    have hpl := place_prog s g hg.1 (by omega) hm
    rw [← hz] at hpl
    have hf : findM (allM s) g = some [z] := by
      unfold allM
      rw [find_all, hpl, if_neg (by simp)]
    clear hpl hc hz hm hs
    obtain ⟨M, hM⟩ : ∃ M, M = allM s := ⟨_, rfl⟩
    rw [← hM] at ca hf
    clear hM
    have hget := uM_find M g _ hf
    have hlk := kM_like M
    clear hf
    obtain ⟨ks, hks⟩ : ∃ k, k = kM M := ⟨_, rfl⟩
    obtain ⟨us, hus⟩ : ∃ k, k = uM M := ⟨_, rfl⟩
    rw [← hks] at ca hget hlk
    rw [← hus] at ca hget
    clear hks hus
    have hneed : (V.int .i64 0).keyLike (V.int .i64 g) = true ∧ ∀ y ∈ ks, (V.int .i64 0).keyLike y = true := ⟨rfl, hlk⟩
    clear hlk
    obtain ⟨yk, yn⟩ := z
    obtain ⟨prog, gs, ps, ms, gl, c0, c1, c2, c3, w0, w1, w2, w3, ts, ck, pr⟩ := s
    obtain ⟨rp, rg, rq, rm, rl, r0, r1, r2, r3, rt, ⟨h_rp, s_rp, l_rp⟩, ⟨h_rg, s_rg, l_rg⟩, ⟨h_rq, s_rq, l_rq⟩, ⟨h_rm, s_rm, l_rm⟩, ⟨h_rl, s_rl, l_rl⟩, ⟨h_r0, s_r0, l_r0⟩, ⟨h_r1, s_r1, l_r1⟩, ⟨h_r2, s_r2, l_r2⟩, ⟨h_r3, s_r3, l_r3⟩, ⟨h_rt, s_rt, l_rt⟩, hst_⟩ := stR prog gs ps ms gl c0 c1 c2 c3 w0 w1 w2 w3 ts ck pr
    dsimp only at hg hgs
    rw [hst_] at cm ca ⊢
    refine callsV_q hD Try.func16 ok16x rfl rfl (by simp only [List.map_cons, List.map_nil, V.sh, V.shL, stL, s_rp, s_rg, s_rq, s_rm, s_rl, s_r0, s_r1, s_r2, s_r3, s_rt]) fun P Q hP hQ => ?_
    clear hst_
    obtain ⟨mg, hmg⟩ : ∃ n : Int, 0 ≤ n ∧ n.toNat = rg.length := ⟨rg.length, by omega, by omega⟩
    have hr1 : 2 = 2 ∧ (0 : Int) ≤ 0 ∧ (0 : Int).toNat < ([[V.int .i64 yk, V.int .i64 yn]] : List (List V)).length := ⟨rfl, by omega, Nat.zero_lt_one⟩
    have hr2 : ([[V.int .i64 yk, V.int .i64 yn]] : List (List V)).getD (0 : Int).toNat [] = [V.int .i64 yk, V.int .i64 yn] := rfl
    try rw [← hP] at cm
    try rw [← hP] at ca
    repeat' (cbv; first | refine .y ?_ | refine .n ?_ | refine .split (fun hc => ?_) fun hc => ?_ | refine EqQ.ints rfl (fun hc => ?_) fun hc => ?_ | refine .go cm ?_ | refine .go ca ?_ | refine .ln hmg ?_ | refine Lt.to hneed hget ?_ | refine Lt.to hr1 hr2 ?_ | refine .wa fun v hv => ?_ | refine .ra fun v hv => ?_ | refine .qa fun v hv => ?_ | refine .len fun v hv => ?_ | refine .all True.intro fun v hv => ?_ | refine Lt.to (by decide) rfl ?_ | (refine .au fun vr vn hvr hvn hvl => ?_; try simp only [List.length_cons, List.length_nil] at hvl) | fail)
    all_goals (try cbv)
    (refine hQ _ ?_; exact ⟨rfl, rfl, rfl, rfl, rfl⟩)

set_option maxHeartbeats 4000000 in
theorem c19 (s : SD) (hs : Fit s) (p : Int) : CallsV Try.prog 19 [.agg (stC s), .int .i64 p] (queueV s p) [.undef, .undef] true := by
  obtain ⟨bm, hbm⟩ : ∃ b, b = mayS s := ⟨_, rfl⟩
  have cm := c14 s hs bm hbm
  unfold queueV
  by_cases hc : ¬ (1 ≤ p ∧ p ≤ s.pr) ∨ mayS s = false
  · rw [if_pos hc]
    rw [← hbm] at hc
    clear hbm hs
    obtain ⟨prog, gs, ps, ms, gl, c0, c1, c2, c3, w0, w1, w2, w3, ts, ck, pr⟩ := s
    obtain ⟨rp, rg, rq, rm, rl, r0, r1, r2, r3, rt, ⟨h_rp, s_rp, l_rp⟩, ⟨h_rg, s_rg, l_rg⟩, ⟨h_rq, s_rq, l_rq⟩, ⟨h_rm, s_rm, l_rm⟩, ⟨h_rl, s_rl, l_rl⟩, ⟨h_r0, s_r0, l_r0⟩, ⟨h_r1, s_r1, l_r1⟩, ⟨h_r2, s_r2, l_r2⟩, ⟨h_r3, s_r3, l_r3⟩, ⟨h_rt, s_rt, l_rt⟩, hst_⟩ := stR prog gs ps ms gl c0 c1 c2 c3 w0 w1 w2 w3 ts ck pr
    dsimp only at hc ⊢
    rw [hst_] at cm ⊢
    refine callsV_q hD Try.func19 ok19 rfl rfl (by simp only [List.map_cons, List.map_nil, V.sh, V.shL, stL, s_rp, s_rg, s_rq, s_rm, s_rl, s_r0, s_r1, s_r2, s_r3, s_rt]) fun P Q hP hQ => ?_
    by_cases hp : 1 ≤ p ∧ p ≤ pr
    · obtain rfl : bm = false := hc.elim (fun h => absurd hp h) id
      clear hc
      try rw [← hP] at cm
      repeat' (cbv; first | refine .y ?_ | refine .n ?_ | refine .split (fun hc => ?_) fun hc => ?_ | refine EqQ.ints rfl (fun hc => ?_) fun hc => ?_ | refine .go cm ?_ | refine .wa fun v hv => ?_ | refine .ra fun v hv => ?_ | refine .qa fun v hv => ?_ | refine .len fun v hv => ?_ | refine .all True.intro fun v hv => ?_ | refine Lt.to (by decide) rfl ?_ | (refine .au fun vr vn hvr hvn hvl => ?_; try simp only [List.length_cons, List.length_nil] at hvl) | fail)
      all_goals (try cbv)
      (refine hQ _ ?_; exact ⟨rfl, rfl, rfl, rfl, rfl⟩)
    · clear hc
      have hp' : p < 1 ∨ pr < p := by omega
      clear hp
      rcases hp' with hp | hp
      all_goals
        repeat' (cbv; first | refine .y ?_ | refine .n ?_ | refine .split (fun hc => ?_) fun hc => ?_ | refine EqQ.ints rfl (fun hc => ?_) fun hc => ?_ | refine .wa fun v hv => ?_ | refine .ra fun v hv => ?_ | refine .qa fun v hv => ?_ | refine .len fun v hv => ?_ | refine .all True.intro fun v hv => ?_ | refine Lt.to (by decide) rfl ?_ | (refine .au fun vr vn hvr hvn hvl => ?_; try simp only [List.length_cons, List.length_nil] at hvl) | fail)
        all_goals (try cbv)
        all_goals first
          | (refine hQ _ ?_; exact ⟨rfl, rfl, rfl, rfl, rfl⟩)
          | (exfalso; omega)
  · rw [if_neg hc]
    have hb : bm = true := by rw [hbm]; cases h : mayS s <;> simp_all
    subst hb
    have hl' := may_len hbm.symm
    have hrs := rings_of_parts hl'.2.2.2
    have hp : 1 ≤ p ∧ p ≤ s.pr := by simp only [not_or, Classical.not_not] at hc; exact hc.1
    clear hc hbm hs
    obtain ⟨x, hx⟩ : ∃ x, s.ps[p.toNat - 1]? = some x := ⟨_, List.getElem?_eq_getElem (by omega)⟩
    have hrx := hrs x (mem_of_get hx)
    rw [getD_of hx]
    have cq := c43 x hrx
    obtain ⟨q, hq⟩ : ∃ q, q = queueOf x := ⟨_, rfl⟩
    rw [← hq] at cq ⊢
    clear hq hrs hrx
    obtain ⟨rw, h_rw⟩ : ∃ r, r = q.map iC := ⟨_, rfl⟩
    have s_rw : V.shR rw = rw := by rw [h_rw]; exact shR_iC q
    have l_rw : rw.length = q.length := by simp [h_rw]
    rw [← h_rw] at cq ⊢
    obtain ⟨prog, gs, ps, ms, gl, c0, c1, c2, c3, w0, w1, w2, w3, ts, ck, pr⟩ := s
    obtain ⟨rp, rg, rq, rm, rl, r0, r1, r2, r3, rt, ⟨h_rp, s_rp, l_rp⟩, ⟨h_rg, s_rg, l_rg⟩, ⟨h_rq, s_rq, l_rq⟩, ⟨h_rm, s_rm, l_rm⟩, ⟨h_rl, s_rl, l_rl⟩, ⟨h_r0, s_r0, l_r0⟩, ⟨h_r1, s_r1, l_r1⟩, ⟨h_r2, s_r2, l_r2⟩, ⟨h_r3, s_r3, l_r3⟩, ⟨h_rt, s_rt, l_rt⟩, hst_⟩ := stR prog gs ps ms gl c0 c1 c2 c3 w0 w1 w2 w3 ts ck pr
    dsimp only at hl' hp hx ⊢
    rw [hst_] at cm ⊢
    refine callsV_q hD Try.func19 ok19 rfl rfl (by simp only [List.map_cons, List.map_nil, V.sh, V.shL, stL, s_rp, s_rg, s_rq, s_rm, s_rl, s_r0, s_r1, s_r2, s_r3, s_rt]) fun P Q hP hQ => ?_
    obtain ⟨k, hk⟩ : ∃ k : Int, k = p - 1 := ⟨_, rfl⟩
    have ga : rq.getD k.toNat [] = pC x := by rw [show k.toNat = p.toNat - 1 by omega]; exact getD_rows h_rq hx
    clear hx h_rq
    obtain ⟨h1, h2, h3, h4⟩ := hl'
    clear h4
    obtain ⟨x0, x1, ⟨x2, x3, x4, x5, x6, x7, x8, x9, x10, x11⟩, x12⟩ := x
    try rw [← hP] at cm
    try rw [← hP] at cq
    repeat' (cbv; first | refine .y ?_ | refine .n ?_ | refine .split (fun hc => ?_) fun hc => ?_ | refine EqQ.ints rfl (fun hc => ?_) fun hc => ?_ | refine .go cm ?_ | refine .wn hk ?_ | refine .row ga ?_ | refine .go cq ?_ | refine .wa fun v hv => ?_ | refine .ra fun v hv => ?_ | refine .qa fun v hv => ?_ | refine .len fun v hv => ?_ | refine .all True.intro fun v hv => ?_ | refine Lt.to (by decide) rfl ?_ | (refine .au fun vr vn hvr hvn hvl => ?_; try simp only [List.length_cons, List.length_nil] at hvl) | fail)
    all_goals (try cbv)
    refine hQ _ ⟨rfl, rfl, ?_, rfl, rfl⟩
    have hf : V.freshR rw = true := by rw [h_rw]; exact freshR_iC q
    simp [t19, RV.ev, V.notTup, V.cells, resG, giveC, okGood, V.closed, V.fresh, hf, tab]
end Go.Ab

namespace Go.Ab
open Go Go.Proofs
set_option maxRecDepth 100000

theorem r_CloneF (l : List (List ID)) (hl : l.length ≤ 1000000) : CallsV Try.prog 45 [.sl false 1 (l.map fC)] (.own 1 (l.map fC)) [.undef] false := by
  obtain ⟨ra, h_ra⟩ : ∃ r, r = l.map fC := ⟨_, rfl⟩
  have s_ra : V.shR ra = ra := by rw [h_ra]; exact shR_fC l
  have l_ra : ra.length = l.length := by simp [h_ra]
  rw [← h_ra]
  refine callsV_q hD Try.func45 ok45 rfl rfl (by simp only [List.map_cons, List.map_nil, V.sh, V.shL, stL, s_ra]) fun P Q hP hQ => ?_
  repeat' (cbv; first | refine .y ?_ | refine .n ?_ | refine .split (fun hc => ?_) fun hc => ?_ | refine EqQ.ints rfl (fun hc => ?_) fun hc => ?_ | refine IfNil.split (fun hc => ?_) ?_ | refine .wa fun v hv => ?_ | refine .ra fun v hv => ?_ | refine .qa fun v hv => ?_ | refine .len fun v hv => ?_ | refine .all True.intro fun v hv => ?_ | refine Lt.to (by decide) rfl ?_ | (refine .au fun vr vn hvr hvn hvl => ?_; try simp only [List.length_cons, List.length_nil] at hvl) | fail)
  all_goals (try cbv)
  · subst hc
    (refine hQ _ ?_; exact ⟨rfl, rfl, rfl, rfl, rfl⟩)
  · (subst_vars; refine hQ _ ?_; exact (Leave.own rfl rfl (by simp) (by simp [fC]) (by simp [okRows_app, okRows_cons, okRows_nil, V.fresh, fr_iC, fr_jC, fr_gC, fr_pC, fr_mC, fr_tC, fr_fC, fr_iCf]) rfl))

theorem freshL_of : ∀ {l : List V}, (l.all fun c => c.fresh) = true → V.freshL l = true
  | [], _ => rfl
  | c :: l, h => by
    simp only [List.all_cons, Bool.and_eq_true] at h
    simp only [V.freshL, h.1, freshL_of h.2, Bool.and_self]
theorem freshR_of : ∀ {rows : List (List V)}, okRows true rows = true → V.freshR rows = true
  | [], _ => rfl
  | r :: l, h => by
    unfold okRows at h
    simp only [List.all_cons, Bool.not_true, Bool.false_or, Bool.and_eq_true] at h
    simp only [V.freshR, freshL_of h.1, Bool.true_and]
    exact freshR_of (by unfold okRows; simpa using h.2)
def cpL (s : SD) : List V :=
  [.sl true 5 (s.gs.map gC), .sl true 13 (s.ps.map pC), .sl true 2 (s.ms.map mC), .sl true 1 (s.gl.map iC), .int .i64 s.c0, .int .i64 s.c1, .int .i64 s.c2, .int .i64 s.c3, .sl true 1 (s.w0.map iC), .sl true 1 (s.w1.map iC), .sl true 1 (s.w2.map iC), .sl true 1 (s.w3.map iC), .sl true 2 (s.ts.map tC), .int .i64 s.ck, .int .i64 s.pr]
structure CpI where
  i : Int
  n : Nat
  rs : List (List V)
structure CwI where
  i : Int
  f0 : Bool
  f1 : Bool
  f2 : Bool
  f3 : Bool
set_option maxHeartbeats 8000000 in
theorem c21 (s : SD) (hs : Fit s) : CallsV Try.prog 21 [.agg (stC s)] (.agg (.own 1 (s.prog.map fT) :: cpL s)) [.undef] true := by
  have hcode := hs.code
  have hprog := hs.prog
  have cf := r_CloneF s.prog hs.prog
  have cg := r_CloneG s.gs hs.gs
  have cq := r_CloneP s.ps hs.ps
  have cm := r_CloneM s.ms hs.ms
  have cl := r_CloneInt s.gl hs.gl
  have ct := r_CloneT s.ts hs.ts
  have k0 := r_CloneInt s.w0 hs.w0
  have k1 := r_CloneInt s.w1 hs.w1
  have k2 := r_CloneInt s.w2 hs.w2
  have k3 := r_CloneInt s.w3 hs.w3
  have ff := fr_fT s.prog
  have fg := fr_gC s.gs
  have fq := fr_pC s.ps
  have fm := fr_mC s.ms
  have fl := fr_iC s.gl
  have f0 := fr_iC s.w0
  have f1 := fr_iC s.w1
  have f2 := fr_iC s.w2
  have f3 := fr_iC s.w3
  have ft := fr_tC s.ts
  clear hs
  unfold cpL
  obtain ⟨prog, gs, ps, ms, gl, c0, c1, c2, c3, w0, w1, w2, w3, ts, ck, pr⟩ := s
  obtain ⟨rp, rg, rq, rm, rl, r0, r1, r2, r3, rt, ⟨h_rp, s_rp, l_rp⟩, ⟨h_rg, s_rg, l_rg⟩, ⟨h_rq, s_rq, l_rq⟩, ⟨h_rm, s_rm, l_rm⟩, ⟨h_rl, s_rl, l_rl⟩, ⟨h_r0, s_r0, l_r0⟩, ⟨h_r1, s_r1, l_r1⟩, ⟨h_r2, s_r2, l_r2⟩, ⟨h_r3, s_r3, l_r3⟩, ⟨h_rt, s_rt, l_rt⟩, hst_⟩ := stR prog gs ps ms gl c0 c1 c2 c3 w0 w1 w2 w3 ts ck pr
  dsimp only at hcode hprog cf cg cq cm cl ct k0 k1 k2 k3 ff fg fq fm fl f0 f1 f2 f3 ft
  rw [hst_]
  rw [← h_rp] at cf
  rw [← h_rg] at cg fg
  rw [← h_rq] at cq fq
  rw [← h_rm] at cm fm
  rw [← h_rl] at cl fl
  rw [← h_rt] at ct ft
  rw [← h_r0] at k0 f0
  rw [← h_r1] at k1 f1
  rw [← h_r2] at k2 f2
  rw [← h_r3] at k3 f3
  dsimp only
  rw [← h_rg, ← h_rq, ← h_rm, ← h_rl, ← h_r0, ← h_r1, ← h_r2, ← h_r3, ← h_rt]
  refine callsV_q hD Try.func21 ok21x rfl rfl (by simp only [List.map_cons, List.map_nil, V.sh, V.shL, stL, s_rp, s_rg, s_rq, s_rm, s_rl, s_r0, s_r1, s_r2, s_r3, s_rt]) fun P Q hP hQ => ?_
  clear hst_ h_rg h_rq h_rm h_rl h_r0 h_r1 h_r2 h_r3 h_rt l_rg l_rq l_rm l_rl l_r0 l_r1 l_r2 l_r3 l_rt
  try rw [← hP] at cf
  repeat' (cbv; first | refine .y ?_ | refine .n ?_ | refine .split (fun hc => ?_) fun hc => ?_ | refine EqQ.ints rfl (fun hc => ?_) fun hc => ?_ | refine .go cf ?_ | refine .wa fun v hv => ?_ | refine .ra fun v hv => ?_ | refine .qa fun v hv => ?_ | refine .len fun v hv => ?_ | refine .all True.intro fun v hv => ?_ | refine Lt.to (by decide) rfl ?_ | (refine .au fun vr vn hvr hvn hvl => ?_; try simp only [List.length_cons, List.length_nil] at hvl) | fail)
  all_goals (try cbv)
  simp only [← List.length.eq_def] at hv ⊢
  obtain ⟨mp, hmp, e⟩ : ∃ mp, (0 ≤ mp ∧ mp.toNat = rp.length) ∧ mp = v := ⟨v, hv, rfl⟩
  rw [← e]
  clear e hv
  refine LoopQ.to (ι := CpI) (fun p => ⟨tab .undef [(1, .ptr 100 0), (2, .ptr 101 0), (12, .sref 112 0 p.n), (13, .int .i64 mp), (14, .int .i64 p.i)], tab .dead [(100, .box [.sref 112 0 p.n, .sl false 5 rg, .sl false 13 rq, .sl false 2 rm, .sl false 1 rl, .int .i64 c0, .int .i64 c1, .int .i64 c2, .int .i64 c3, .sl false 1 r0, .sl false 1 r1, .sl false 1 r2, .sl false 1 r3, .sl false 2 rt, .int .i64 ck, .int .i64 pr]),
    (101, .box [.nils 1, .nils 5, .nils 13, .nils 2, .nils 1, .int .i64 0, .int .i64 0, .int .i64 0, .int .i64 0, .nils 1, .nils 1, .nils 1, .nils 1, .nils 2, .int .i64 0, .int .i64 0]), (112, .rows 1 p.rs)]⟩)
    (fun p => 0 ≤ p.i ∧ p.i.toNat ≤ prog.length ∧ p.n = prog.length ∧ p.rs = (prog.take p.i.toNat).map fT ++ (prog.drop p.i.toNat).map fC) (fun p => prog.length - p.i.toNat) ⟨0, rp.length, rp⟩ ⟨by simp, by simp, l_rp, by simpa using h_rp⟩ rfl fun ⟨i, n, rs⟩ ⟨i0, i1, hn, hrs⟩ A hA => ?_
  dsimp only at i0 i1 hn hrs ⊢
  rcases drop_cases i1 with ⟨e, hd⟩ | ⟨hlt, x, hd, hx⟩
  · have hrs' : rs = prog.map fT := by rw [hrs, e]; simp
    have hnr : n = rs.length := by rw [hrs', hn]; simp
    rw [← hrs'] at hQ ff
    have hmi : mp = i := by omega
    clear hrs' hrs hd
    try rw [← hP] at cg
    try rw [← hP] at cq
    try rw [← hP] at cm
    try rw [← hP] at cl
    try rw [← hP] at ct
    repeat' (cbv; first | refine .y ?_ | refine .n ?_ | refine .split (fun hc => ?_) fun hc => ?_ | refine EqQ.ints rfl (fun hc => ?_) fun hc => ?_ | refine .go cg ?_ | refine .go cq ?_ | refine .go cm ?_ | refine .go cl ?_ | refine .go ct ?_ | refine .wa fun v hv => ?_ | refine .ra fun v hv => ?_ | refine .qa fun v hv => ?_ | refine .len fun v hv => ?_ | refine .all True.intro fun v hv => ?_ | refine Lt.to (by decide) rfl ?_ | (refine .au fun vr vn hvr hvn hvl => ?_; try simp only [List.length_cons, List.length_nil] at hvl) | fail)
    all_goals (try cbv)
    refine LoopQ.to (ι := CwI) (fun p => ⟨tab .undef [(1, .ptr 100 0), (2, .ptr 101 0), (47, .agg [.sl false 1 r0, .sl false 1 r1, .sl false 1 r2, .sl false 1 r3]), (48, .int .i64 p.i)], tab .dead [(100, .box [.sref 112 0 n, .sl true 5 rg, .sl true 13 rq, .sl true 2 rm, .sl true 1 rl, .int .i64 c0, .int .i64 c1, .int .i64 c2, .int .i64 c3, .sl p.f0 1 r0, .sl p.f1 1 r1, .sl p.f2 1 r2, .sl p.f3 1 r3, .sl true 2 rt, .int .i64 ck, .int .i64 pr]),
      (101, .box [.nils 1, .nils 5, .nils 13, .nils 2, .nils 1, .int .i64 0, .int .i64 0, .int .i64 0, .int .i64 0, .nils 1, .nils 1, .nils 1, .nils 1, .nils 2, .int .i64 0, .int .i64 0]), (112, .rows 1 rs)]⟩)
      (fun p => p = ⟨0, false, false, false, false⟩ ∨ p = ⟨1, true, false, false, false⟩ ∨ p = ⟨2, true, true, false, false⟩ ∨ p = ⟨3, true, true, true, false⟩ ∨ p = ⟨4, true, true, true, true⟩) (fun p => (4 - p.i).toNat) ⟨0, false, false, false, false⟩ (.inl rfl) rfl fun p hp B hB => ?_
    rcases hp with rfl | rfl | rfl | rfl | rfl
    · try rw [← hP] at k0
      repeat' (cbv; first | refine .y ?_ | refine .n ?_ | refine .split (fun hc => ?_) fun hc => ?_ | refine EqQ.ints rfl (fun hc => ?_) fun hc => ?_ | refine .go k0 ?_ | refine .wa fun v hv => ?_ | refine .ra fun v hv => ?_ | refine .qa fun v hv => ?_ | refine .len fun v hv => ?_ | refine .all True.intro fun v hv => ?_ | refine Lt.to (by decide) rfl ?_ | (refine .au fun vr vn hvr hvn hvl => ?_; try simp only [List.length_cons, List.length_nil] at hvl) | fail)
      all_goals (try cbv)
      exact hB ⟨v, true, false, false, false⟩ _ (.inr (.inl (by rw [hv]; rfl))) (by dsimp only; omega) rfl
    · try rw [← hP] at k1
      repeat' (cbv; first | refine .y ?_ | refine .n ?_ | refine .split (fun hc => ?_) fun hc => ?_ | refine EqQ.ints rfl (fun hc => ?_) fun hc => ?_ | refine .go k1 ?_ | refine .wa fun v hv => ?_ | refine .ra fun v hv => ?_ | refine .qa fun v hv => ?_ | refine .len fun v hv => ?_ | refine .all True.intro fun v hv => ?_ | refine Lt.to (by decide) rfl ?_ | (refine .au fun vr vn hvr hvn hvl => ?_; try simp only [List.length_cons, List.length_nil] at hvl) | fail)
      all_goals (try cbv)
      exact hB ⟨v, true, true, false, false⟩ _ (.inr (.inr (.inl (by rw [hv]; rfl)))) (by dsimp only; omega) rfl
    · try rw [← hP] at k2
      repeat' (cbv; first | refine .y ?_ | refine .n ?_ | refine .split (fun hc => ?_) fun hc => ?_ | refine EqQ.ints rfl (fun hc => ?_) fun hc => ?_ | refine .go k2 ?_ | refine .wa fun v hv => ?_ | refine .ra fun v hv => ?_ | refine .qa fun v hv => ?_ | refine .len fun v hv => ?_ | refine .all True.intro fun v hv => ?_ | refine Lt.to (by decide) rfl ?_ | (refine .au fun vr vn hvr hvn hvl => ?_; try simp only [List.length_cons, List.length_nil] at hvl) | fail)
      all_goals (try cbv)
      exact hB ⟨v, true, true, true, false⟩ _ (.inr (.inr (.inr (.inl (by rw [hv]; rfl))))) (by dsimp only; omega) rfl
    · try rw [← hP] at k3
      repeat' (cbv; first | refine .y ?_ | refine .n ?_ | refine .split (fun hc => ?_) fun hc => ?_ | refine EqQ.ints rfl (fun hc => ?_) fun hc => ?_ | refine .go k3 ?_ | refine .wa fun v hv => ?_ | refine .ra fun v hv => ?_ | refine .qa fun v hv => ?_ | refine .len fun v hv => ?_ | refine .all True.intro fun v hv => ?_ | refine Lt.to (by decide) rfl ?_ | (refine .au fun vr vn hvr hvn hvl => ?_; try simp only [List.length_cons, List.length_nil] at hvl) | fail)
      all_goals (try cbv)
      exact hB ⟨v, true, true, true, true⟩ _ (.inr (.inr (.inr (.inr (by rw [hv]; rfl))))) (by dsimp only; omega) rfl
    · repeat' (cbv; first | refine .y ?_ | refine .n ?_ | refine .split (fun hc => ?_) fun hc => ?_ | refine EqQ.ints rfl (fun hc => ?_) fun hc => ?_ | refine .wa fun v hv => ?_ | refine .ra fun v hv => ?_ | refine .qa fun v hv => ?_ | refine .len fun v hv => ?_ | refine .all True.intro fun v hv => ?_ | refine Lt.to (by decide) rfl ?_ | (refine .au fun vr vn hvr hvn hvl => ?_; try simp only [List.length_cons, List.length_nil] at hvl) | fail)
      all_goals (try cbv)
      refine hQ _ ⟨?_, rfl, ?_, rfl, rfl⟩
      · simp [t21x, RV.ev, pack, resG, giveC, tab, pickc, hnr]
      · simp [t21x, RV.ev, V.notTup, V.cells, resG, giveC, okGood, tab, pickc, V.fresh, V.closed, hnr]
        unfold okRows at ff
        simp at ff
        exact ⟨ff, freshR_of fg, freshR_of fq, freshR_of fm, freshR_of fl, freshR_of f0, freshR_of f1, freshR_of f2, freshR_of f3, freshR_of ft⟩
  · have ht := take_succ_of hx
    obtain ⟨rf, h_rf⟩ : ∃ r, r = x.map jC := ⟨_, rfl⟩
    have s_rf : V.shR rf = rf := by rw [h_rf]; exact shR_jC x
    have l_rf : rf.length = x.length := by simp [h_rf]
    have lf : x.length ≤ 1000000 := hcode x (mem_of_get hx)
    have cx := r_CloneInstr x lf
    rw [← h_rf] at cx
    have hti : ((prog.take i.toNat).map fT).length = i.toNat := by simp; omega
    have hlen : rs.length = n := by rw [hrs, hn]; simp; omega
    have ga : rs.getD i.toNat [] = [.sl false 2 rf] := by
      rw [hrs, List.getD_eq_getElem?_getD, List.getElem?_append_right (by omega), hti, Nat.sub_self, hd, List.map_cons, h_rf]; rfl
    have hset : rs.set i.toNat [.sl true 2 rf] = (prog.take (i.toNat + 1)).map fT ++ (prog.drop (i.toNat + 1)).map fC := by
      rw [hrs, List.set_append_right _ _ (by omega), hti, Nat.sub_self, hd, List.map_cons, List.set_cons_zero, ht, h_rf, List.map_append]; simp [fT]
    obtain ⟨rs', hrs'⟩ : ∃ r, r = rs.set i.toNat [.sl true 2 rf] := ⟨_, rfl⟩
    rw [← hrs'] at hset
    have hst : rs.set i.toNat (setR (rs.getD i.toNat []) 0 [.sl true 2 rf]) = rs' := by rw [ga, hrs']; rfl
    clear hrs' hrs hd hx ht
    have hn1 : 1 = 1 ∧ 0 ≤ i ∧ i.toNat < n := ⟨rfl, by omega, by omega⟩
    have hn2 : 0 + i.toNat = i.toNat := by omega
    have hn3 : 0 + 1 ≤ 1 := by omega
    try rw [← hP] at cx
    repeat' (cbv; first | refine .y ?_ | refine .n ?_ | refine .split (fun hc => ?_) fun hc => ?_ | refine EqQ.ints rfl (fun hc => ?_) fun hc => ?_ | refine Lt.to hn1 hn2 ?_ | refine Lt.to hn3 ga ?_ | refine .go cx ?_ | refine Lt.to ⟨rfl, hn3⟩ hst ?_ | refine .wa fun v hv => ?_ | refine .ra fun v hv => ?_ | refine .qa fun v hv => ?_ | refine .len fun v hv => ?_ | refine .all True.intro fun v hv => ?_ | refine Lt.to (by decide) rfl ?_ | (refine .au fun vr vn hvr hvn hvl => ?_; try simp only [List.length_cons, List.length_nil] at hvl) | fail)
    all_goals (try cbv)
    exact hA ⟨v, n, rs'⟩ _ ⟨by dsimp only; omega, by dsimp only; omega, hn, by dsimp only; rw [hset, show v.toNat = i.toNat + 1 by omega]⟩ (by dsimp only; omega) rfl
end Go.Ab

namespace Go.Ab
open Go Go.Proofs
set_option maxRecDepth 100000

theorem shR_fT (l : List (List ID)) : V.shR (l.map fT) = l.map fC := by
  induction l with
  | nil => rfl
  | cons f l ih =>
    have h := shR_jC f
    simp only [List.map_cons, V.shR, ih, fT, fC, V.shL, V.sh, h]
def cpR (s : SD) : List V :=
  [.own 1 (s.prog.map fC), .sl false 5 (s.gs.map gC), .sl false 13 (s.ps.map pC), .sl false 2 (s.ms.map mC), .sl false 1 (s.gl.map iC), .int .i64 s.c0, .int .i64 s.c1, .int .i64 s.c2, .int .i64 s.c3, .sl false 1 (s.w0.map iC), .sl false 1 (s.w1.map iC), .sl false 1 (s.w2.map iC), .sl false 1 (s.w3.map iC), .sl false 2 (s.ts.map tC), .int .i64 s.ck, .int .i64 s.pr]
theorem q21 (s : SD) (hs : Fit s) : CallsV Try.prog 21 [.agg (stC s)] (.agg (cpR s)) [.undef] false := by
  have h := (c21 s hs).asRead
  have e : (V.agg (.own 1 (s.prog.map fT) :: cpL s)).sh = .agg (cpR s) := by
    simp only [V.sh, V.shL, cpL, cpR, shR_fT, shR_gC, shR_pC, shR_mC, shR_iC, shR_tC]
  rwa [e] at h
theorem q25 (s : SD) (hs : Fit s) : CallsV Try.prog 25 [.agg (stC s)] (.agg (stO s)) [.undef] false := by
  have h := (c25 s hs).asRead
  have e : (V.agg (stT s)).sh = .agg (stO s) := by
    simp only [V.sh, V.shL, stT, stO, shR_fT, shR_gC, shR_pC, shR_mC, shR_iC, shR_tC]
  rwa [e] at h

def zeroS : SD := ⟨[], [], [], [], [], 0, 0, 0, 0, [], [], [], [], [], 0, 0⟩
theorem newS_fit {p : List (List ID)} (hp : p.length ≤ 1000000) (hf : ∀ f ∈ p, f.length ≤ 1000000) (k : Int) : Fit (newS p k) := by
  constructor <;> simp [newS] <;> assumption
def newPV (p : List (List ID)) (k : Int) : List V :=
  [.sl true 1 (p.map fC), .sl false 5 ((newS p k).gs.map gC), .sl false 13 ((newS p k).ps.map pC), .sl false 2 [], .sl false 1 ((newS p k).gl.map iC), .int .i64 0, .int .i64 0, .int .i64 0, .int .i64 0, .sl false 1 [], .sl false 1 [], .sl false 1 [], .sl false 1 [], .sl false 2 [], .int .i64 0, .int .i64 k]
set_option maxHeartbeats 4000000 in
theorem c11t (p : List (List ID)) (hp : p.length ≤ 1000000) (hf : ∀ f ∈ p, f.length ≤ 1000000) (k : Int) (hm : mayP p = true) (hk : 1 ≤ k ∧ k ≤ 8) :
    CallsV Try.prog 11 [.sl false 1 (p.map fC), .int .i64 k] (.tup [.agg (newPV p k), .int .i64 0]) [.undef, .undef] false := by
  have cm := c26 p hp hf true hm.symm
  have cc := q21 (newS p k) (newS_fit hp hf k)
  unfold newPV
  unfold cpR stC newS at cc
  dsimp only at cc
  obtain ⟨ra, h_ra⟩ : ∃ r, r = p.map fC := ⟨_, rfl⟩
  have s_ra : V.shR ra = ra := by rw [h_ra]; exact shR_fC p
  have l_ra : ra.length = p.length := by simp [h_ra]
  rw [← h_ra] at cm cc ⊢
  refine callsV_q hD Try.func11 ok11 rfl rfl (by simp only [List.map_cons, List.map_nil, V.sh, V.shL, stL, s_ra]) fun P Q hP hQ => ?_
  try rw [← hP] at cm
  try rw [← hP] at cc
  repeat' (cbv; first | refine .y ?_ | refine .n ?_ | refine .split (fun hc => ?_) fun hc => ?_ | refine EqQ.ints rfl (fun hc => ?_) fun hc => ?_ | refine .go cm ?_ | refine .go cc ?_ | refine .wa fun v hv => ?_ | refine .ra fun v hv => ?_ | refine .qa fun v hv => ?_ | refine .len fun v hv => ?_ | refine .all True.intro fun v hv => ?_ | refine Lt.to (by decide) rfl ?_ | (refine .au fun vr vn hvr hvn hvl => ?_; try simp only [List.length_cons, List.length_nil] at hvl) | fail)
  all_goals (try cbv)
  (refine hQ _ ?_; exact ⟨rfl, rfl, rfl, rfl, rfl⟩)
set_option maxHeartbeats 4000000 in
theorem c11f (p : List (List ID)) (hp : p.length ≤ 1000000) (hf : ∀ f ∈ p, f.length ≤ 1000000) (k : Int) (h : ¬ (mayP p = true ∧ 1 ≤ k ∧ k ≤ 8)) :
    CallsV Try.prog 11 [.sl false 1 (p.map fC), .int .i64 k] (.tup [zeroV, .int .i64 1]) [.undef, .undef] false := by
  obtain ⟨bm, hbm⟩ : ∃ b, b = mayP p := ⟨_, rfl⟩
  have cm := c26 p hp hf bm hbm
  rw [← hbm] at h
  clear hbm
  obtain ⟨ra, h_ra⟩ : ∃ r, r = p.map fC := ⟨_, rfl⟩
  have s_ra : V.shR ra = ra := by rw [h_ra]; exact shR_fC p
  have l_ra : ra.length = p.length := by simp [h_ra]
  rw [← h_ra] at cm ⊢
  refine callsV_q hD Try.func11 ok11 rfl rfl (by simp only [List.map_cons, List.map_nil, V.sh, V.shL, stL, s_ra]) fun P Q hP hQ => ?_
  cases bm with
  | false =>
    try rw [← hP] at cm
    repeat' (cbv; first | refine .y ?_ | refine .n ?_ | refine .split (fun hc => ?_) fun hc => ?_ | refine EqQ.ints rfl (fun hc => ?_) fun hc => ?_ | refine .go cm ?_ | refine .wa fun v hv => ?_ | refine .ra fun v hv => ?_ | refine .qa fun v hv => ?_ | refine .len fun v hv => ?_ | refine .all True.intro fun v hv => ?_ | refine Lt.to (by decide) rfl ?_ | (refine .au fun vr vn hvr hvn hvl => ?_; try simp only [List.length_cons, List.length_nil] at hvl) | fail)
    all_goals (try cbv)
    (refine hQ _ ?_; exact ⟨rfl, rfl, rfl, rfl, rfl⟩)
  | true =>
    have h' : ¬ (1 ≤ k ∧ k ≤ 8) := fun q => h ⟨rfl, q⟩
    clear h
    try rw [← hP] at cm
    repeat' (cbv; first | refine .y ?_ | refine .n ?_ | refine .split (fun hc => ?_) fun hc => ?_ | refine EqQ.ints rfl (fun hc => ?_) fun hc => ?_ | refine .go cm ?_ | refine .wa fun v hv => ?_ | refine .ra fun v hv => ?_ | refine .qa fun v hv => ?_ | refine .len fun v hv => ?_ | refine .all True.intro fun v hv => ?_ | refine Lt.to (by decide) rfl ?_ | (refine .au fun vr vn hvr hvn hvl => ?_; try simp only [List.length_cons, List.length_nil] at hvl) | fail)
    all_goals (try cbv)
    all_goals first
      | (refine hQ _ ?_; exact ⟨rfl, rfl, rfl, rfl, rfl⟩)
      | (exfalso; omega)
theorem q11 (p : List (List ID)) (hp : p.length ≤ 1000000) (hf : ∀ f ∈ p, f.length ≤ 1000000) (k : Int) (hm : mayP p = true) (hk : 1 ≤ k ∧ k ≤ 8) :
    CallsV Try.prog 11 [.sl false 1 (p.map fC), .int .i64 k] (.tup [.agg (stC (newS p k)), .int .i64 0]) [.undef, .undef] false := by
  have h := (c11t p hp hf k hm hk).asRead
  have e : (V.tup [.agg (newPV p k), .int .i64 0]).sh = .tup [.agg (stC (newS p k)), .int .i64 0] := by
    simp only [V.sh, V.shL, newPV, stC, stL, newS, shR_fC, shR_gC, shR_pC, shR_iC, List.map_nil, V.shR]
  rwa [e] at h
def newR (p : List (List ID)) (k : Int) : List V :=
  [.sl false 1 (p.map fC), .sl false 5 ((newS p k).gs.map gC), .sl false 13 ((newS p k).ps.map pC), .own 2 [], .sl false 1 ((newS p k).gl.map iC), .int .i64 0, .int .i64 0, .int .i64 0, .int .i64 0, .own 1 [], .own 1 [], .own 1 [], .own 1 [], .own 2 [], .int .i64 0, .int .i64 k]
theorem q12 (p : List (List ID)) (hp : p.length ≤ 1000000) (hf : ∀ f ∈ p, f.length ≤ 1000000) (k : Int) (hm : mayP p = true) (hk : 1 ≤ k ∧ k ≤ 8) :
    CallsV Try.prog 12 [.sl false 1 (p.map fC), .int .i64 k] (.tup [.agg (newR p k), .int .i64 0]) [.undef, .undef] false := by
  have h := (c12 p hp hf k true (by rw [hm, decide_eq_true hk]; rfl)).asRead
  rw [if_pos rfl, if_pos rfl] at h
  have e : (V.tup [newV p k, .int .i64 0]).sh = .tup [.agg (newR p k), .int .i64 0] := by
    simp only [V.sh, V.shL, newV, newR, newS, shR_fC, shR_gC, shR_pC, shR_iC, V.shR]
  rwa [e] at h
theorem q12f (p : List (List ID)) (hp : p.length ≤ 1000000) (hf : ∀ f ∈ p, f.length ≤ 1000000) (k : Int) (h : ¬ (mayP p = true ∧ 1 ≤ k ∧ k ≤ 8)) :
    CallsV Try.prog 12 [.sl false 1 (p.map fC), .int .i64 k] (.tup [zeroV, .int .i64 1]) [.undef, .undef] false := by
  have := c12 p hp hf k false (by
    symm
    rw [Bool.and_eq_false_iff]
    by_cases q : mayP p = true
    · exact .inr (decide_eq_false fun q' => h ⟨q, q'⟩)
    · exact .inl (by simpa using q))
  rwa [if_neg (by decide), if_neg (by decide)] at this

theorem fit_small {s : SD} (h : smallS s = true) : Fit s := by
  unfold smallS smallPr at h
  simp only [Bool.and_eq_true, List.all_eq_true, decide_eq_true_eq] at h
  obtain ⟨⟨⟨_, _⟩, h1, h2⟩, h3, h4, h5, h6⟩ := h
  exact ⟨by omega, fun f hf => by have := h1 f hf; omega, by omega, by omega, by omega, by omega, by omega, by omega, by omega, by omega, by omega⟩
end Go.Ab
