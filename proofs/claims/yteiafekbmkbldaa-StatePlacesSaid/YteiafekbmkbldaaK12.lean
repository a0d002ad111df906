/-
  A G's status, by where it is: the program.
  The plain law of places: the program's map of places says what the document's counts say.
  May a state's parts be, each for itself? the program.
  A copy of a state; a program's state: the document's answers.
-/
import Derived.Test.YteiafekbmkbldaaK5
import Derived.Test.YteiafekbmkbldaaK8
import Derived.Test.YteiafekbmkbldaaK9
import Derived.Test.YteiafekbmkbldaaK10
set_option linter.all false
namespace Go.Ab
open Go Go.Proofs
set_option maxRecDepth 100000

def statusOf (k : Int) : Int := if k = 1 ∨ k = 2 ∨ k = 3 then 1 else if k = 4 then 2 else if k = 5 ∨ k = 6 then 3 else if k = 7 then 4 else 5
theorem c33 (p : Int × Int) (z : Int) (hz : z = statusOf p.1) : CallsV Try.prog 33 [.agg (plC p)] (.int .i64 z) [.undef] true := by
  obtain ⟨k, n⟩ := p
  unfold statusOf at hz
  dsimp only at hz
  refine callsV_q hD Try.func33 ok33 rfl rfl rfl fun P Q hP hQ => ?_
  repeat' (cbv; first | refine .y ?_ | refine .n ?_ | refine .split (fun hc => ?_) fun hc => ?_ | refine EqQ.ints rfl (fun hc => ?_) fun hc => ?_ | refine .wa fun v hv => ?_ | refine .ra fun v hv => ?_ | refine .qa fun v hv => ?_ | refine .len fun v hv => ?_ | refine .all True.intro fun v hv => ?_ | refine Lt.to (by decide) rfl ?_ | (refine .au fun vr vn hvr hvn hvl => ?_; try simp only [List.length_cons, List.length_nil] at hvl) | fail)
  all_goals (try cbv)
  all_goals
    repeat' split at hz
    all_goals first
      | (exfalso; omega)
      | (subst hz; (refine hQ _ ?_; exact ⟨rfl, rfl, rfl, rfl, rfl⟩))
end Go.Ab

namespace Go.Ab
open Go Go.Proofs

theorem find_add (M : PM) (x : Int × Int × Int) (g : Int) : findM (addM M x) g = if x.1 = g then some ((findM M g).getD [] ++ [x.2]) else findM M g := by
  induction M with
  | nil => simp only [addM, findM]; split <;> simp
  | cons e M ih =>
    simp only [addM]
    by_cases h1 : e.1 = x.1
    · rw [if_pos h1]
      simp only [findM]
      by_cases h2 : e.1 = g
      · rw [if_pos h2, if_pos (h1 ▸ h2), if_pos h2]; rfl
      · rw [if_neg h2, if_neg (h1 ▸ h2), if_neg h2]
    · rw [if_neg h1]
      simp only [findM, ih]
      by_cases h2 : e.1 = g
      · rw [if_pos h2, if_neg (fun q => h1 (h2.trans q.symm)), if_pos h2]
      · rw [if_neg h2, if_neg h2]
def atL (L : List (Int × Int × Int)) (g : Int) : List (Int × Int) := (L.filter fun x => decide (x.1 = g)).map (·.2)
theorem find_addL (L : List (Int × Int × Int)) (g : Int) : ∀ M : PM, findM (addL M L) g = if atL L g = [] then findM M g else some ((findM M g).getD [] ++ atL L g) := by
  induction L with
  | nil => intro M; rfl
  | cons x L ih =>
    intro M
    show findM (addL (addM M x) L) g = _
    rw [ih, find_add]
    by_cases h : x.1 = g
    · have e : atL (x :: L) g = x.2 :: atL L g := by simp [atL, h]
      rw [if_pos h, e]
      by_cases h2 : atL L g = []
      · rw [if_pos h2, if_neg (by simp), h2]
      · rw [if_neg h2, if_neg (by simp)]; simp
    · have e : atL (x :: L) g = atL L g := by simp [atL, h]
      rw [if_neg h, e]
theorem find_all (L : List (Int × Int × Int)) (g : Int) : findM (addL [] L) g = if atL L g = [] then none else some (atL L g) := by
  rw [find_addL]
  rfl

def keysM (M : PM) : List Int := M.map (·.1)
theorem keys_add (M : PM) (x : Int × Int × Int) : keysM (addM M x) = if x.1 ∈ keysM M then keysM M else keysM M ++ [x.1] := by
  induction M with
  | nil => rfl
  | cons e M ih =>
    simp only [addM]
    by_cases h : e.1 = x.1
    · rw [if_pos h, if_pos (by simp [keysM, h])]; rfl
    · rw [if_neg h]
      have : keysM (e :: addM M x) = e.1 :: keysM (addM M x) := rfl
      rw [this, ih]
      have hm : (x.1 ∈ keysM (e :: M)) ↔ x.1 ∈ keysM M := by
        simp only [keysM, List.map_cons, List.mem_cons]
        exact ⟨fun q => q.resolve_left (fun q => h q.symm), .inr⟩
      by_cases h2 : x.1 ∈ keysM M
      · rw [if_pos h2, if_pos (hm.2 h2)]; rfl
      · rw [if_neg h2, if_neg (fun q => h2 (hm.1 q))]; rfl
theorem keys_nodup (L : List (Int × Int × Int)) : ∀ M : PM, (keysM M).Nodup → (keysM (addL M L)).Nodup := by
  induction L with
  | nil => intro M h; exact h
  | cons x L ih =>
    intro M h
    refine ih (addM M x) ?_
    rw [keys_add]
    split
    · exact h
    · rename_i hx
      rw [List.nodup_append]
      exact ⟨h, by simp, fun a ha b hb => by simp at hb; subst hb; exact fun q => hx (q ▸ ha)⟩
theorem keys_mem (L : List (Int × Int × Int)) (g : Int) : ∀ M : PM, g ∈ keysM (addL M L) ↔ g ∈ keysM M ∨ ∃ x ∈ L, x.1 = g := by
  induction L with
  | nil => intro M; simp [addL]
  | cons x L ih =>
    intro M
    show g ∈ keysM (addL (addM M x) L) ↔ _
    rw [ih, keys_add]
    constructor
    · rintro (h | ⟨y, hy, e⟩)
      · split at h
        · exact .inl h
        · simp only [List.mem_append, List.mem_singleton] at h
          rcases h with h | h
          · exact .inl h
          · exact .inr ⟨x, by simp, h.symm⟩
      · exact .inr ⟨y, by simp [hy], e⟩
    · rintro (h | ⟨y, hy, e⟩)
      · left; split
        · exact h
        · simp [h]
      · simp only [List.mem_cons] at hy
        rcases hy with rfl | hy
        · left; split
          · rename_i q; exact e ▸ q
          · simp [e]
        · exact .inr ⟨y, hy, e⟩
theorem nodup_le {α : Type} [DecidableEq α] : ∀ (A B : List α), A.Nodup → (∀ a ∈ A, a ∈ B) → A.length ≤ B.length
  | [], B, _, _ => Nat.zero_le _
  | a :: A, B, h, hs => by
    rw [List.nodup_cons] at h
    have h1 := nodup_le A (B.erase a) h.2 (fun x hx => (List.mem_erase_of_ne (fun q : x = a => h.1 (by rw [← q]; exact hx))).2 (hs x (by simp [hx])))
    have h2 := List.length_erase_of_mem (hs a (by simp))
    have h3 := List.length_pos_of_mem (hs a (by simp))
    simp only [List.length_cons]; omega
def upTo (n : Nat) : List Int := (List.range n).map fun i : Nat => (i : Int) + 1
theorem upTo_mem {n : Nat} {g : Int} : g ∈ upTo n ↔ 1 ≤ g ∧ g ≤ n := by
  simp only [upTo, List.mem_map, List.mem_range]
  constructor
  · rintro ⟨i, hi, rfl⟩; omega
  · rintro ⟨h1, h2⟩; exact ⟨(g - 1).toNat, by omega, by omega⟩
theorem upTo_nodup (n : Nat) : (upTo n).Nodup := by
  unfold upTo
  refine List.Pairwise.map (R := fun a b : Nat => a ≠ b) _ (fun a b h q => h (by omega)) ?_
  exact List.nodup_range
theorem keys_count {L : List (Int × Int × Int)} {n : Nat} (h : ∀ g, 1 ≤ g → g ≤ (n : Int) → atL L g ≠ []) : (addL [] L).length = n ↔ ∀ x ∈ L, 1 ≤ x.1 ∧ x.1 ≤ n := by
  have hk : (addL [] L).length = (keysM (addL [] L)).length := by simp [keysM]
  have hnd := keys_nodup L [] (by simp [keysM])
  have hmem : ∀ g, g ∈ keysM (addL [] L) ↔ ∃ x ∈ L, x.1 = g := fun g => by rw [keys_mem]; simp [keysM]
  have hin : ∀ g, 1 ≤ g → g ≤ (n : Int) → g ∈ keysM (addL [] L) := fun g h1 h2 => by
    have := h g h1 h2
    rw [hmem]
    simp only [atL, ne_eq, List.map_eq_nil_iff, List.filter_eq_nil_iff, decide_eq_true_eq, Classical.not_forall, Classical.not_not] at this
    obtain ⟨x, hx, e⟩ := this
    exact ⟨x, hx, e⟩
  have hle := nodup_le (upTo n) _ (upTo_nodup n) (fun a ha => by rw [upTo_mem] at ha; exact hin a ha.1 ha.2)
  have hul : (upTo n).length = n := by simp [upTo]
  rw [hk]
  constructor
  · intro e x hx
    have hxk := (hmem x.1).2 ⟨x, hx, rfl⟩
    rcases Classical.em (x.1 ∈ upTo n) with hu | hu
    · rwa [upTo_mem] at hu
    · have := nodup_le (x.1 :: upTo n) _ (List.nodup_cons.2 ⟨hu, upTo_nodup n⟩) (fun a ha => by
        simp only [List.mem_cons] at ha
        rcases ha with rfl | ha
        · exact hxk
        · rw [upTo_mem] at ha; exact hin a ha.1 ha.2)
      simp only [List.length_cons] at this
      omega
  · intro hall
    have := nodup_le _ (upTo n) hnd (fun a ha => by
      obtain ⟨x, hx, rfl⟩ := (hmem a).1 ha
      rw [upTo_mem]; exact hall x hx)
    omega

theorem atL_app (A B : List (Int × Int × Int)) (g : Int) : atL (A ++ B) g = atL A g ++ atL B g := by simp [atL]
theorem atL_K (k n : Int) (l : List Int) (g : Int) : atL (putsK k n l) g = List.replicate (l.count g) (k, n) := by
  induction l with
  | nil => rfl
  | cons x l ih =>
    have hc : putsK k n (x :: l) = (x, k, n) :: putsK k n l := rfl
    rw [hc]
    by_cases h : x = g
    · have : atL ((x, k, n) :: putsK k n l) g = (k, n) :: atL (putsK k n l) g := by simp [atL, h]
      rw [this, ih, h, List.count_cons_self]; rfl
    · have : atL ((x, k, n) :: putsK k n l) g = atL (putsK k n l) g := by simp [atL, h]
      rw [this, ih, List.count_cons_of_ne h]
theorem atL_T (l : List TD) (g : Int) : atL (putsT l) g = List.replicate ((l.map (·.g)).count g) (6, 0) := by
  rw [← atL_K]
  congr 1
  simp [putsT, putsK]
theorem atL_len {L : List (Int × Int × Int)} {g : Int} : (atL L g).length = (L.map (·.1)).count g := by
  induction L with
  | nil => rfl
  | cons x L ih =>
    simp only [List.map_cons]
    by_cases h : x.1 = g
    · have : atL (x :: L) g = x.2 :: atL L g := by simp [atL, h]
      rw [this, h, List.count_cons_self, List.length_cons, ih]
    · have : atL (x :: L) g = atL L g := by simp [atL, h]
      rw [this, List.count_cons_of_ne h, ih]
theorem putsP_keys (i : Int) (p : PD) : (putsP i p).map (·.1) = queueOf p := by
  unfold putsP queueOf
  by_cases h : p.nx = 0
  · rw [if_pos h, if_pos h]; simp [Function.comp_def]
  · rw [if_neg h, if_neg h]; simp [Function.comp_def]
theorem putsPs_keys : ∀ (l : List PD) (i : Int), (putsPs i l).map (·.1) = l.flatMap queueOf
  | [], _ => rfl
  | p :: l, i => by
    simp only [putsPs, List.map_append, List.flatMap_cons, putsPs_keys l (i + 1), putsP_keys]
theorem putsPs_kind : ∀ (l : List PD) (i : Int) (x : Int × Int × Int), x ∈ putsPs i l → x.2.1 = 1 ∨ x.2.1 = 2
  | [], _, _, h => by simp [putsPs] at h
  | p :: l, i, x, h => by
    simp only [putsPs, List.mem_append] at h
    rcases h with h | h
    · simp only [putsP, List.mem_append, List.mem_map] at h
      rcases h with h | ⟨g, _, rfl⟩
      · split at h
        · simp at h
        · simp at h; subst h; exact .inl rfl
      · exact .inr rfl
    · exact putsPs_kind l (i + 1) x h
theorem mem_atL {L : List (Int × Int × Int)} {g : Int} {y : Int × Int} : y ∈ atL L g ↔ (g, y) ∈ L := by
  simp only [atL, List.mem_map, List.mem_filter, decide_eq_true_eq]
  constructor
  · rintro ⟨⟨a, b⟩, ⟨h1, h2⟩, h3⟩
    dsimp only at h2 h3
    subst h2 h3; exact h1
  · intro h; exact ⟨(g, y), ⟨h, rfl⟩, rfl⟩

theorem putsMs_mem : ∀ (l : List MD) (i : Int) (g k n : Int), (g, k, n) ∈ putsMs i l ↔ ∃ j : Nat, ∃ m, l[j]? = some m ∧ m.g = g ∧ g ≠ 0 ∧ n = i + j + 1 ∧ ((m.p ≠ 0 ∧ k = 4) ∨ (m.p = 0 ∧ k = 7))
  | [], _, _, _, _ => by simp [putsMs]
  | m :: l, i, g, k, n => by
    simp only [putsMs, List.mem_append, putsMs_mem l (i + 1)]
    constructor
    · rintro (h | ⟨j, m', h1, h2, h3, h4, h5⟩)
      · unfold putsM1 at h
        split at h
        · rename_i hg
          split at h
          · rename_i hp
            simp only [List.mem_singleton, Prod.mk.injEq] at h
            exact ⟨0, m, rfl, h.1.symm, by rw [h.1]; exact hg, by rw [h.2.2]; simp, .inl ⟨hp, h.2.1⟩⟩
          · rename_i hp
            simp only [List.mem_singleton, Prod.mk.injEq] at h
            exact ⟨0, m, rfl, h.1.symm, by rw [h.1]; exact hg, by rw [h.2.2]; simp, .inr ⟨by omega, h.2.1⟩⟩
        · simp at h
      · exact ⟨j + 1, m', by simpa using h1, h2, h3, by rw [h4]; omega, h5⟩
    · rintro ⟨j, m', h1, h2, h3, h4, h5⟩
      cases j with
      | zero =>
        simp only [List.getElem?_cons_zero, Option.some.injEq] at h1
        subst h1
        left
        unfold putsM1
        rw [if_pos (by omega)]
        rcases h5 with ⟨h5, h6⟩ | ⟨h5, h6⟩
        · rw [if_pos h5]; simp; exact ⟨h2.symm, h6, by omega⟩
        · rw [if_neg (by omega)]; simp; exact ⟨h2.symm, h6, by omega⟩
      | succ j => exact .inr ⟨j, m', by simpa using h1, h2, h3, by omega, h5⟩
theorem kind_M (w : Bool) : ∀ (l : List MD) (i g : Int), ((atL (putsMs i l) g).filter fun y => decide (y.1 = if w then 4 else 7)).length = ((l.filter fun m => decide (m.g ≠ 0) && (decide (m.p ≠ 0) == w)).map (·.g)).count g
  | [], _, _ => rfl
  | m :: l, i, g => by
    have ih := kind_M w l (i + 1) g
    simp only [putsMs, atL_app, List.filter_append, List.length_append, ih, List.filter_cons]
    have hone : ((atL (putsM1 i m) g).filter fun y => decide (y.1 = if w then 4 else 7)).length = if (m.g ≠ 0 ∧ decide (m.p ≠ 0) = w ∧ m.g = g) then 1 else 0 := by
      unfold putsM1
      obtain ⟨mp, mg⟩ := m
      dsimp only
      by_cases hg : mg = 0
      · simp [hg, atL]
      · by_cases he : mg = g
        · subst he
          by_cases hp : mp = 0 <;> cases w <;> simp [hg, hp, atL]
        · by_cases hp : mp = 0 <;> cases w <;> simp [hg, hp, atL, he]
    rw [hone]
    by_cases hc : (decide (m.g ≠ 0) && (decide (m.p ≠ 0) == w)) = true
    · have hc' := hc
      simp only [Bool.and_eq_true, decide_eq_true_eq, beq_iff_eq] at hc'
      by_cases he : m.g = g
      · rw [if_pos ⟨hc'.1, hc'.2, he⟩, if_pos hc, List.map_cons, he, List.count_cons_self]; omega
      · rw [if_neg (fun q => he q.2.2), if_pos hc, List.map_cons, List.count_cons_of_ne he]; omega
    · have hc' := hc
      simp only [Bool.and_eq_true, decide_eq_true_eq, beq_iff_eq] at hc'
      rw [if_neg (fun q => hc' ⟨q.1, q.2.1⟩), if_neg hc]; omega
theorem putsMs_kind {l : List MD} {i : Int} {g : Int} {y : Int × Int} (h : y ∈ atL (putsMs i l) g) : y.1 = 4 ∨ y.1 = 7 := by
  rw [mem_atL] at h
  obtain ⟨k, n⟩ := y
  obtain ⟨_, _, _, _, _, _, h⟩ := (putsMs_mem l i g k n).1 h
  rcases h with h | h
  · exact .inl h.2
  · exact .inr h.2
theorem atL_Gs : ∀ (l : List GD) (i g : Int), atL (putsGs i l) g = if i < g ∧ g ≤ i + l.length ∧ (l.getD (g - i - 1).toNat default).st = 5 then [(8, 0)] else []
  | [], i, g => by simp only [putsGs, List.length_nil]; rw [if_neg (by omega)]; rfl
  | x :: l, i, g => by
    simp only [putsGs, atL_app, atL_Gs l (i + 1) g, List.length_cons]
    by_cases he : i + 1 = g
    · have h0 : (g - i - 1).toNat = 0 := by omega
      rw [h0, List.getD_cons_zero]
      rw [if_neg (by omega), List.append_nil]
      unfold putsG1
      by_cases hs : x.st = 5
      · rw [if_pos hs, if_pos ⟨by omega, by omega, hs⟩]; simp [atL, he]
      · rw [if_neg hs, if_neg (fun q => hs q.2.2)]; rfl
    · have h1 : atL (putsG1 i x) g = [] := by
        unfold putsG1
        split <;> simp [atL, he]
      rw [h1, List.nil_append]
      by_cases hb : i + 1 < g
      · have e1 : (g - i - 1).toNat = (g - (i + 1) - 1).toNat + 1 := by omega
        rw [e1, List.getD_cons_succ]
        by_cases hc : g ≤ i + 1 + l.length ∧ (l.getD (g - (i + 1) - 1).toNat default).st = 5
        · rw [if_pos ⟨by omega, hc.1, hc.2⟩, if_pos ⟨by omega, by omega, hc.2⟩]
        · rw [if_neg (fun q => hc ⟨q.2.1, q.2.2⟩), if_neg (fun q => hc ⟨by omega, q.2.2⟩)]
      · rw [if_neg (by omega), if_neg (by omega)]
end Go.Ab

namespace Go.Ab
open Go Go.Proofs
set_option maxRecDepth 100000

theorem r_May (r : RD) (b : Bool) (hb : b = mayR r) : CallsV Try.prog 57 [.agg (rC r)] (.bool b) [.undef] true := by
  rw [rC_ring]; exact c57 r.f r.h r.n b (by rw [hb]; exact mayR_iff r)
theorem queueOf_zero {p : PD} (h : mayR p.r = true) : (queueOf p).length = 0 ↔ (p.nx = 0 ∧ p.r.n ≤ 0) := by
  obtain ⟨h0, h1, m0, m1, _⟩ := (mayR_iff p.r).1 h
  unfold queueOf listR
  rw [if_pos h]
  by_cases hn : p.nx = 0
  · rw [if_pos hn]; simp [hn]; try omega
  · rw [if_neg hn]; simp [hn]
def partsS (s : SD) : Bool :=
  mayP s.prog && (decide (1 ≤ s.gs.length ∧ s.gs.length ≤ 1000 ∧ s.ps.length = 8 ∧ 1 ≤ s.pr ∧ s.pr ≤ 8 ∧ s.ms.length ≤ 1000) && (decide (0 ≤ s.ck ∧ s.ck < 2305843009213693952) && (mayT [] s.ts && (s.gs.all (okG s.prog) && (allI (okP s) 0 s.ps && (allI (fun i m => decide (okMp s i m)) 0 s.ms &&
    (okCt s.c0 s.w0 && (okCt s.c1 s.w1 && (okCt s.c2 s.w2 && okCt s.c3 s.w3)))))))))
theorem mayS_parts (s : SD) : mayS s = (partsS s && (inB s.gs.length (runnables s) && (inB s.gs.length (waiters s) && (inB s.gs.length (onMs s true) && (inB s.gs.length (onMs s false) &&
    (List.range s.gs.length).all fun j : Nat => standsB s (j + 1)))))) := by
  unfold mayS partsS holdsB
  simp only [Bool.and_assoc]

set_option maxHeartbeats 16000000 in
theorem c31 (s : SD) (hs : Fit s) (b : Bool) (hb : b = partsS s) : CallsV Try.prog 31 [.agg (stC s)] (.bool b) [.undef] true := by
  obtain ⟨bp, hbp⟩ : ∃ z, z = mayP s.prog := ⟨_, rfl⟩
  obtain ⟨bl, hbl⟩ : ∃ z, z = decide (0 ≤ s.ck ∧ s.ck < 2305843009213693952) := ⟨_, rfl⟩
  obtain ⟨bt, hbt⟩ : ∃ z, z = mayT [] s.ts := ⟨_, rfl⟩
  have cp := c26 s.prog hs.prog hs.code bp hbp
  have cl := r_fit s.ck bl hbl
  have ct := c56 s.ts hs.ts bt hbt
  have hgs := hs.gs
  have hms := hs.ms
  have hpg := hs.prog
  have hcd := hs.code
  unfold partsS at hb
  rw [← hbp, ← hbl, ← hbt] at hb
  clear hbp hbl hbt hs
  obtain ⟨s0, hs0⟩ : ∃ s0, s0 = s := ⟨_, rfl⟩
  obtain ⟨GP, hGP⟩ : ∃ f, f = okP s := ⟨_, rfl⟩
  obtain ⟨GM, hGM⟩ : ∃ f, f = fun i m => decide (okMp s i m) := ⟨_, rfl⟩
  rw [← hGP, ← hGM] at hb
  rw [← hs0] at hGP hGM
  have e1 : s0.ps = s.ps := by rw [hs0]
  have e2 : s0.ms = s.ms := by rw [hs0]
  have e3 : s0.pr = s.pr := by rw [hs0]
  clear hs0
  obtain ⟨prog, gs, ps, ms, gl, c0, c1, c2, c3, w0, w1, w2, w3, ts, ck, pr⟩ := s
  obtain ⟨rp, rg, rq, rm, rl, r0, r1, r2, r3, rt, ⟨h_rp, s_rp, l_rp⟩, ⟨h_rg, s_rg, l_rg⟩, ⟨h_rq, s_rq, l_rq⟩, ⟨h_rm, s_rm, l_rm⟩, ⟨h_rl, s_rl, l_rl⟩, ⟨h_r0, s_r0, l_r0⟩, ⟨h_r1, s_r1, l_r1⟩, ⟨h_r2, s_r2, l_r2⟩, ⟨h_r3, s_r3, l_r3⟩, ⟨h_rt, s_rt, l_rt⟩, hst_⟩ := stR prog gs ps ms gl c0 c1 c2 c3 w0 w1 w2 w3 ts ck pr
  dsimp only at hgs hms hpg hcd cp cl ct hb e1 e2 e3
  rw [hst_]
  rw [← h_rp] at cp
  rw [← h_rt] at ct
  refine callsV_q hD Try.func31 ok31 rfl rfl (by simp only [List.map_cons, List.map_nil, V.sh, V.shL, stL, s_rp, s_rg, s_rq, s_rm, s_rl, s_r0, s_r1, s_r2, s_r3, s_rt]) fun P Q hP hQ => ?_
  clear hst_ h_rl h_r0 h_r1 h_r2 h_r3 h_rt l_rl l_rt
  by_cases hlin : 1 ≤ gs.length ∧ gs.length ≤ 1000 ∧ ps.length = 8 ∧ 1 ≤ pr ∧ pr ≤ 8 ∧ ms.length ≤ 1000
  · rw [decide_eq_true hlin, Bool.true_and] at hb
    cases bp with
    | false =>
      try rw [← hP] at cp
      repeat' (cbv; first | refine .y ?_ | refine .n ?_ | refine .split (fun hc => ?_) fun hc => ?_ | refine EqQ.ints rfl (fun hc => ?_) fun hc => ?_ | refine .go cp ?_ | refine .wa fun v hv => ?_ | refine .ra fun v hv => ?_ | refine .qa fun v hv => ?_ | refine .len fun v hv => ?_ | refine .all True.intro fun v hv => ?_ | refine Lt.to (by decide) rfl ?_ | (refine .au fun vr vn hvr hvn hvl => ?_; try simp only [List.length_cons, List.length_nil] at hvl) | fail)
      all_goals (try cbv)
      have hbe : b = false := by exact hb
      subst hbe; refine hQ _ ?_; exact ⟨rfl, rfl, rfl, rfl, rfl⟩
    | true =>
    cases bl with
    | false =>
      try rw [← hP] at cp
      try rw [← hP] at cl
      repeat' (cbv; first | refine .y ?_ | refine .n ?_ | refine .split (fun hc => ?_) fun hc => ?_ | refine EqQ.ints rfl (fun hc => ?_) fun hc => ?_ | refine .go cp ?_ | refine .go cl ?_ | refine .wa fun v hv => ?_ | refine .ra fun v hv => ?_ | refine .qa fun v hv => ?_ | refine .len fun v hv => ?_ | refine .all True.intro fun v hv => ?_ | refine Lt.to (by decide) rfl ?_ | (refine .au fun vr vn hvr hvn hvl => ?_; try simp only [List.length_cons, List.length_nil] at hvl) | fail)
      all_goals (try cbv)
      have hbe : b = false := by exact hb
      subst hbe; refine hQ _ ?_; exact ⟨rfl, rfl, rfl, rfl, rfl⟩
    | true =>
    cases bt with
    | false =>
      try rw [← hP] at cp
      try rw [← hP] at cl
      try rw [← hP] at ct
      repeat' (cbv; first | refine .y ?_ | refine .n ?_ | refine .split (fun hc => ?_) fun hc => ?_ | refine EqQ.ints rfl (fun hc => ?_) fun hc => ?_ | refine .go cp ?_ | refine .go cl ?_ | refine .go ct ?_ | refine .wa fun v hv => ?_ | refine .ra fun v hv => ?_ | refine .qa fun v hv => ?_ | refine .len fun v hv => ?_ | refine .all True.intro fun v hv => ?_ | refine Lt.to (by decide) rfl ?_ | (refine .au fun vr vn hvr hvn hvl => ?_; try simp only [List.length_cons, List.length_nil] at hvl) | fail)
      all_goals (try cbv)
      have hbe : b = false := by exact hb
      subst hbe; refine hQ _ ?_; exact ⟨rfl, rfl, rfl, rfl, rfl⟩
    | true =>
    simp only [Bool.true_and] at hb
    obtain ⟨ng, hng⟩ : ∃ n : Int, 0 ≤ n ∧ n.toNat = gs.length := ⟨gs.length, by omega, by omega⟩
    obtain ⟨nm, hnm⟩ : ∃ n : Int, 0 ≤ n ∧ n.toNat = ms.length := ⟨ms.length, by omega, by omega⟩
    obtain ⟨np, hnp⟩ : ∃ n : Int, 0 ≤ n ∧ n.toNat = prog.length := ⟨prog.length, by omega, by omega⟩
    have hgg : 0 ≤ ng ∧ ng.toNat = rg.length := ⟨hng.1, by omega⟩
    have hmm : 0 ≤ nm ∧ nm.toNat = rm.length := ⟨hnm.1, by omega⟩
    have hq8 : (0 : Int) ≤ 8 ∧ (8 : Int).toNat = rq.length := ⟨by omega, by omega⟩
    have hpp : 0 ≤ np ∧ np.toNat = rp.length := ⟨hnp.1, by omega⟩
    obtain ⟨T3, hT3⟩ : ∃ T, T = (okCt c0 w0 && (okCt c1 w1 && (okCt c2 w2 && okCt c3 w3))) := ⟨_, rfl⟩
    rw [← hT3] at hb
    obtain ⟨T2, hT2⟩ : ∃ T, T = (allI GM 0 ms && T3) := ⟨_, rfl⟩
    rw [← hT2] at hb
    obtain ⟨T1, hT1⟩ : ∃ T, T = (allI GP 0 ps && T2) := ⟨_, rfl⟩
    rw [← hT1] at hb
    try rw [← hP] at cp
    try rw [← hP] at cl
    try rw [← hP] at ct
    repeat' (cbv; first | refine .y ?_ | refine .n ?_ | refine .split (fun hc => ?_) fun hc => ?_ | refine EqQ.ints rfl (fun hc => ?_) fun hc => ?_ | refine .ln hgg ?_ | refine .go cp ?_ | refine .go cl ?_ | refine .go ct ?_ | refine .wa fun v hv => ?_ | refine .ra fun v hv => ?_ | refine .qa fun v hv => ?_ | refine .len fun v hv => ?_ | refine .all True.intro fun v hv => ?_ | refine Lt.to (by decide) rfl ?_ | (refine .au fun vr vn hvr hvn hvl => ?_; try simp only [List.length_cons, List.length_nil] at hvl) | fail)
    all_goals (try cbv)
    refine LoopQ.to (ι := Int) (fun i => ⟨tab .undef [(1, .ptr 100 0), (63, .sl false 5 rg), (64, .int .i64 ng), (65, .int .i64 i)], tab .dead [(100, .box (stL rp rg rq rm rl c0 c1 c2 c3 r0 r1 r2 r3 rt ck pr))]⟩)
      (fun i => 0 ≤ i ∧ i.toNat ≤ gs.length ∧ b = ((gs.drop i.toNat).all (okG prog) && T1)) (fun i => gs.length - i.toNat) 0 ⟨by omega, by omega, hb⟩ rfl fun i ⟨i0, i1, hi⟩ A hA => ?_
    clear hb cp ct cl
    rcases drop_cases i1 with ⟨e, hd⟩ | ⟨hlt, x, hd, hx⟩
    case inr =>
      rw [hd, List.all_cons, Bool.and_assoc] at hi
      have ga := getD_rows h_rg hx
      obtain ⟨T, hT⟩ : ∃ T, T = ((gs.drop (i.toNat + 1)).all (okG prog) && T1) := ⟨_, rfl⟩
      rw [← hT] at hi
      obtain ⟨xf, xp, xs, xm, xq⟩ := x
      rw [show okG prog ⟨xf, xp, xs, xm, xq⟩ = (decide (0 ≤ xf ∧ xf < prog.length ∧ 0 ≤ xp ∧ 0 ≤ xq ∧ xq < 2305843009213693952) && decide (xp ≤ (prog.getD xf.toNat []).length)) from rfl] at hi
      have hnext : b = T → ∀ v : Int, v = i + 1 → b = ((gs.drop v.toNat).all (okG prog) && T1) := fun e v hv => by
        rw [e, hT, show v.toNat = i.toNat + 1 by omega]
      clear hT hT1 hT2 hT3 hGP hGM e1 e2 e3 hd
      obtain ⟨bq, hbq⟩ : ∃ bl, bl = decide (0 ≤ xq ∧ xq < 2305843009213693952) := ⟨_, rfl⟩
      have cq := r_fit xq bq hbq
      by_cases hr : 0 ≤ xf ∧ xf.toNat < prog.length
      · obtain ⟨f, hf⟩ : ∃ f, prog[xf.toNat]? = some f := ⟨_, List.getElem?_eq_getElem hr.2⟩
        have lf := hcd f (mem_of_get hf)
        have gf := getD_rows h_rp hf
        have hgf : prog.getD xf.toNat [] = f := by rw [List.getD_eq_getElem?_getD, hf]; rfl
        rw [hgf] at hi
        obtain ⟨rf, h_rf⟩ : ∃ r, r = f.map jC := ⟨_, rfl⟩
        have s_rf : V.shR rf = rf := by rw [h_rf]; exact shR_jC f
        have l_rf : rf.length = f.length := by simp [h_rf]
        have gf' : rp.getD xf.toNat [] = [.sl false 2 rf] := by rw [gf, h_rf]; rfl
        obtain ⟨nf, hnf⟩ : ∃ n : Int, 0 ≤ n ∧ n.toNat = f.length := ⟨f.length, by omega, by omega⟩
        have hff : 0 ≤ nf ∧ nf.toNat = rf.length := ⟨hnf.1, by omega⟩
        have hlf : (xf < prog.length) = (xf < np) := by rw [show (prog.length : Int) = np by omega]
        have hlf2 : (xp ≤ f.length) = (xp ≤ nf) := by rw [show (f.length : Int) = nf by omega]
        simp only [hlf, hlf2] at hi
        clear hx hf gf hgf hcd hlf hlf2
        by_cases hgood : 0 ≤ xp ∧ xp ≤ nf
        · cases bq with
          | true =>
            have hq' := hbq.symm
            simp only [decide_eq_true_eq] at hq'
            rw [decide_eq_true (p := 0 ≤ xf ∧ xf < np ∧ 0 ≤ xp ∧ 0 ≤ xq ∧ xq < 2305843009213693952) (by omega), decide_eq_true (p := xp ≤ nf) (by omega), Bool.true_and, Bool.true_and] at hi
            try rw [← hP] at cq
            repeat' (cbv; first | refine .y ?_ | refine .n ?_ | refine .split (fun hc => ?_) fun hc => ?_ | refine EqQ.ints rfl (fun hc => ?_) fun hc => ?_ | refine .row ga ?_ | refine .ln hpp ?_ | refine .ln hff ?_ | refine .go cq ?_ | refine .row gf' ?_ | refine .wa fun v hv => ?_ | refine .ra fun v hv => ?_ | refine .qa fun v hv => ?_ | refine .len fun v hv => ?_ | refine .all True.intro fun v hv => ?_ | refine Lt.to (by decide) rfl ?_ | (refine .au fun vr vn hvr hvn hvl => ?_; try simp only [List.length_cons, List.length_nil] at hvl) | fail)
            all_goals (try cbv)
            exact hA _ _ ⟨by omega, by omega, hnext hi _ hv⟩ (by omega) rfl
          | false =>
            have hq' := hbq.symm
            simp only [decide_eq_false_iff_not] at hq'
            rw [decide_eq_false (p := 0 ≤ xf ∧ xf < np ∧ 0 ≤ xp ∧ 0 ≤ xq ∧ xq < 2305843009213693952) (by omega), Bool.false_and, Bool.false_and] at hi
            try rw [← hP] at cq
            repeat' (cbv; first | refine .y ?_ | refine .n ?_ | refine .split (fun hc => ?_) fun hc => ?_ | refine EqQ.ints rfl (fun hc => ?_) fun hc => ?_ | refine .row ga ?_ | refine .ln hpp ?_ | refine .ln hff ?_ | refine .go cq ?_ | refine .row gf' ?_ | refine .wa fun v hv => ?_ | refine .ra fun v hv => ?_ | refine .qa fun v hv => ?_ | refine .len fun v hv => ?_ | refine .all True.intro fun v hv => ?_ | refine Lt.to (by decide) rfl ?_ | (refine .au fun vr vn hvr hvn hvl => ?_; try simp only [List.length_cons, List.length_nil] at hvl) | fail)
            all_goals (try cbv)
            have hbe : b = false := by exact hi
            subst hbe; refine hQ _ ?_; exact ⟨rfl, rfl, rfl, rfl, rfl⟩
        · have hbe : b = false := by
            rw [hi]
            by_cases h1 : 0 ≤ xp
            · rw [decide_eq_false (p := xp ≤ nf) (by omega), Bool.and_false, Bool.false_and]
            · rw [decide_eq_false (p := 0 ≤ xf ∧ xf < np ∧ 0 ≤ xp ∧ 0 ≤ xq ∧ xq < 2305843009213693952) (by omega), Bool.false_and, Bool.false_and]
          clear hi hnext
          subst hbe
          try rw [← hP] at cq
          repeat' (cbv; first | refine .y ?_ | refine .n ?_ | refine .split (fun hc => ?_) fun hc => ?_ | refine EqQ.ints rfl (fun hc => ?_) fun hc => ?_ | refine .row ga ?_ | refine .ln hpp ?_ | refine .ln hff ?_ | refine .go cq ?_ | refine .row gf' ?_ | refine .wa fun v hv => ?_ | refine .ra fun v hv => ?_ | refine .qa fun v hv => ?_ | refine .len fun v hv => ?_ | refine .all True.intro fun v hv => ?_ | refine Lt.to (by decide) rfl ?_ | (refine .au fun vr vn hvr hvn hvl => ?_; try simp only [List.length_cons, List.length_nil] at hvl) | fail)
          all_goals (try cbv)
          all_goals first
            | (refine hQ _ ?_; exact ⟨rfl, rfl, rfl, rfl, rfl⟩)
            | (exfalso; omega)
      · rw [decide_eq_false (p := 0 ≤ xf ∧ xf < prog.length ∧ 0 ≤ xp ∧ 0 ≤ xq ∧ xq < 2305843009213693952) (by omega), Bool.false_and, Bool.false_and] at hi
        clear hnext hx hcd
        repeat' (cbv; first | refine .y ?_ | refine .n ?_ | refine .split (fun hc => ?_) fun hc => ?_ | refine EqQ.ints rfl (fun hc => ?_) fun hc => ?_ | refine .row ga ?_ | refine .ln hpp ?_ | refine .wa fun v hv => ?_ | refine .ra fun v hv => ?_ | refine .qa fun v hv => ?_ | refine .len fun v hv => ?_ | refine .all True.intro fun v hv => ?_ | refine Lt.to (by decide) rfl ?_ | (refine .au fun vr vn hvr hvn hvl => ?_; try simp only [List.length_cons, List.length_nil] at hvl) | fail)
        all_goals (try cbv)
        all_goals first
          | (have hbe : b = false := hi
             subst hbe; (refine hQ _ ?_; exact ⟨rfl, rfl, rfl, rfl, rfl⟩))
          | (exfalso; omega)
    rw [hd, List.all_nil, Bool.true_and, hT1] at hi
    clear hd hA hcd hT1
    repeat' (cbv; first | refine .y ?_ | refine .n ?_ | refine .split (fun hc => ?_) fun hc => ?_ | refine EqQ.ints rfl (fun hc => ?_) fun hc => ?_ | refine .ln hq8 ?_ | refine .wa fun v hv => ?_ | refine .ra fun v hv => ?_ | refine .qa fun v hv => ?_ | refine .len fun v hv => ?_ | refine .all True.intro fun v hv => ?_ | refine Lt.to (by decide) rfl ?_ | (refine .au fun vr vn hvr hvn hvl => ?_; try simp only [List.length_cons, List.length_nil] at hvl) | fail)
    all_goals (try cbv)
    clear e i1 i0
    refine LoopQ.to (ι := Int) (fun i => ⟨tab .undef [(1, .ptr 100 0), (106, .sl false 13 rq), (107, .int .i64 8), (108, .int .i64 i)], tab .dead [(100, .box (stL rp rg rq rm rl c0 c1 c2 c3 r0 r1 r2 r3 rt ck pr))]⟩)
      (fun i => 0 ≤ i ∧ i.toNat ≤ ps.length ∧ b = (allI GP i (ps.drop i.toNat) && T2)) (fun i => ps.length - i.toNat) 0 ⟨by omega, by omega, hi⟩ rfl fun i ⟨i0, i1, hi⟩ A hA => ?_
    rcases drop_cases i1 with ⟨e, hd⟩ | ⟨hlt, x, hd, hx⟩
    case inr =>
      rw [hd, allI, Bool.and_assoc] at hi
      have ga := getD_rows h_rq hx
      obtain ⟨T, hT⟩ : ∃ T, T = (allI GP (i + 1) (ps.drop (i.toNat + 1)) && T2) := ⟨_, rfl⟩
      rw [← hT] at hi
      have hnext : b = T → ∀ v : Int, v = i + 1 → b = (allI GP v (ps.drop v.toNat) && T2) := fun e v hv => by
        rw [e, hT, show v.toNat = i.toNat + 1 by omega, hv]
      clear hT hT2 hT3 hd
      obtain ⟨bm, hbm⟩ : ∃ bm, bm = mayR x.r := ⟨_, rfl⟩
      have cm := r_May x.r bm hbm
      obtain ⟨bq, hbq⟩ : ∃ bl, bl = decide (0 ≤ x.sq ∧ x.sq < 2305843009213693952) := ⟨_, rfl⟩
      have cq := r_fit x.sq bq hbq
      rw [hGP] at hi
      unfold okP at hi
      rw [← hbm] at hi
      cases bm with
      | false =>
        clear hnext hbm hGP hGM hx
        obtain ⟨xm, xn, ⟨x2, x3, x4, x5, x6, x7, x8, x9, xh, xk⟩, xq⟩ := x
        try rw [← hP] at cm
        repeat' (cbv; first | refine .y ?_ | refine .n ?_ | refine .split (fun hc => ?_) fun hc => ?_ | refine EqQ.ints rfl (fun hc => ?_) fun hc => ?_ | refine .row ga ?_ | refine .go cm ?_ | refine .wa fun v hv => ?_ | refine .ra fun v hv => ?_ | refine .qa fun v hv => ?_ | refine .len fun v hv => ?_ | refine .all True.intro fun v hv => ?_ | refine Lt.to (by decide) rfl ?_ | (refine .au fun vr vn hvr hvn hvl => ?_; try simp only [List.length_cons, List.length_nil] at hvl) | fail)
        all_goals (try cbv)
        have hbe : b = false := by exact hi
        subst hbe; refine hQ _ ?_; exact ⟨rfl, rfl, rfl, rfl, rfl⟩
      | true =>
      rw [Bool.true_and] at hi
      cases bq with
      | false =>
        have hq' := hbq.symm
        simp only [decide_eq_false_iff_not] at hq'
        rw [decide_eq_false (by unfold okPp; omega), Bool.false_and] at hi
        clear hnext hbm hGP hGM hx
        obtain ⟨xm, xn, ⟨x2, x3, x4, x5, x6, x7, x8, x9, xh, xk⟩, xq⟩ := x
        try rw [← hP] at cm
        try rw [← hP] at cq
        repeat' (cbv; first | refine .y ?_ | refine .n ?_ | refine .split (fun hc => ?_) fun hc => ?_ | refine EqQ.ints rfl (fun hc => ?_) fun hc => ?_ | refine .row ga ?_ | refine .go cm ?_ | refine .go cq ?_ | refine .wa fun v hv => ?_ | refine .ra fun v hv => ?_ | refine .qa fun v hv => ?_ | refine .len fun v hv => ?_ | refine .all True.intro fun v hv => ?_ | refine Lt.to (by decide) rfl ?_ | (refine .au fun vr vn hvr hvn hvl => ?_; try simp only [List.length_cons, List.length_nil] at hvl) | fail)
        all_goals (try cbv)
        have hbe : b = false := by exact hi
        subst hbe; refine hQ _ ?_; exact ⟨rfl, rfl, rfl, rfl, rfl⟩
      | true =>
      have hq' := hbq.symm
      simp only [decide_eq_true_eq] at hq'
      have cu := c43 x hbm.symm
      have hz := queueOf_zero hbm.symm
      have hzl := queueOf_len x
      obtain ⟨u, hu⟩ : ∃ u, u = queueOf x := ⟨_, rfl⟩
      rw [← hu] at cu hz hzl
      clear hu hbm
      obtain ⟨ru, h_ru⟩ : ∃ r, r = u.map iC := ⟨_, rfl⟩
      have s_ru : V.shR ru = ru := by rw [h_ru]; exact shR_iC u
      have l_ru : ru.length = u.length := by simp [h_ru]
      rw [← h_ru] at cu
      obtain ⟨nu, hnu⟩ : ∃ n : Int, 0 ≤ n ∧ n.toNat = ru.length := ⟨ru.length, by omega, by omega⟩
      have hnz : nu = 0 ↔ (x.nx = 0 ∧ x.r.n ≤ 0) := by rw [← hz]; omega
      clear hz h_ru
      by_cases hr : 1 ≤ x.m ∧ x.m ≤ nm
      · obtain ⟨k, hk⟩ : ∃ k : Int, k = x.m - 1 := ⟨_, rfl⟩
        obtain ⟨y, hy⟩ : ∃ y, ms[k.toNat]? = some y := ⟨_, List.getElem?_eq_getElem (by omega)⟩
        have gy := getD_rows h_rm hy
        have hok : okPp s0 i x = (0 ≤ x.sq ∧ x.sq < 2305843009213693952 ∧ 0 ≤ x.m ∧ x.m ≤ nm ∧ (x.m = 0 ∨ y.p = i + 1) ∧ (i < pr ∨ (x.m = 0 ∧ x.nx = 0 ∧ x.r.n ≤ 0))) := by
          unfold okPp
          rw [e2, e3, show x.m.toNat - 1 = k.toNat by omega, getD_of hy, show (ms.length : Int) = nm by omega]
        obtain ⟨y0, y1⟩ := y
        obtain ⟨xm, xn, ⟨x2, x3, x4, x5, x6, x7, x8, x9, xh, xk⟩, xq⟩ := x
        dsimp only at hok hq' hnz hr hk
        by_cases hgood : y0 = i + 1 ∧ i < pr
        · rw [decide_eq_true (by rw [hok]; omega), Bool.true_and] at hi
          clear hok hGP hGM hx hy hnz
          try rw [← hP] at cm
          try rw [← hP] at cq
          repeat' (cbv; first | refine .y ?_ | refine .n ?_ | refine .split (fun hc => ?_) fun hc => ?_ | refine EqQ.ints rfl (fun hc => ?_) fun hc => ?_ | refine .row ga ?_ | refine .go cm ?_ | refine .go cq ?_ | refine .ln hmm ?_ | refine .wn hk ?_ | refine .row gy ?_ | refine .wa fun v hv => ?_ | refine .ra fun v hv => ?_ | refine .qa fun v hv => ?_ | refine .len fun v hv => ?_ | refine .all True.intro fun v hv => ?_ | refine Lt.to (by decide) rfl ?_ | (refine .au fun vr vn hvr hvn hvl => ?_; try simp only [List.length_cons, List.length_nil] at hvl) | fail)
          all_goals (try cbv)
          exact hA _ _ ⟨by omega, by omega, hnext hi _ hv⟩ (by omega) rfl
        · rw [decide_eq_false (by rw [hok]; omega), Bool.false_and] at hi
          clear hok hGP hGM hx hy hnz hnext
          try rw [← hP] at cm
          try rw [← hP] at cq
          repeat' (cbv; first | refine .y ?_ | refine .n ?_ | refine .split (fun hc => ?_) fun hc => ?_ | refine EqQ.ints rfl (fun hc => ?_) fun hc => ?_ | refine .row ga ?_ | refine .go cm ?_ | refine .go cq ?_ | refine .ln hmm ?_ | refine .wn hk ?_ | refine .row gy ?_ | refine .wa fun v hv => ?_ | refine .ra fun v hv => ?_ | refine .qa fun v hv => ?_ | refine .len fun v hv => ?_ | refine .all True.intro fun v hv => ?_ | refine Lt.to (by decide) rfl ?_ | (refine .au fun vr vn hvr hvn hvl => ?_; try simp only [List.length_cons, List.length_nil] at hvl) | fail)
          all_goals (try cbv)
          all_goals first
            | (have hbe : b = false := hi
               subst hbe; (refine hQ _ ?_; exact ⟨rfl, rfl, rfl, rfl, rfl⟩))
            | (exfalso; omega)
      · have hok : okPp s0 i x = (0 ≤ x.sq ∧ x.sq < 2305843009213693952 ∧ x.m = 0 ∧ (i < pr ∨ nu = 0)) := by
          unfold okPp
          rw [e2, e3]
          refine propext ⟨fun h => ⟨h.1, h.2.1, by omega, by omega⟩, fun h => ⟨h.1, h.2.1, by omega, by omega, .inl h.2.2.1, by omega⟩⟩
        obtain ⟨xm, xn, ⟨x2, x3, x4, x5, x6, x7, x8, x9, xh, xk⟩, xq⟩ := x
        dsimp only at hok hq' hnz hr
        by_cases h0 : xm = 0 ∧ (i < pr ∨ nu = 0)
        · rw [decide_eq_true (by rw [hok]; omega), Bool.true_and] at hi
          clear hok hGP hGM hx hnz
          try rw [← hP] at cm
          try rw [← hP] at cq
          try rw [← hP] at cu
          repeat' (cbv; first | refine .y ?_ | refine .n ?_ | refine .split (fun hc => ?_) fun hc => ?_ | refine EqQ.ints rfl (fun hc => ?_) fun hc => ?_ | refine .row ga ?_ | refine .go cm ?_ | refine .go cq ?_ | refine .go cu ?_ | refine .ln hmm ?_ | refine .ln hnu ?_ | refine .wa fun v hv => ?_ | refine .ra fun v hv => ?_ | refine .qa fun v hv => ?_ | refine .len fun v hv => ?_ | refine .all True.intro fun v hv => ?_ | refine Lt.to (by decide) rfl ?_ | (refine .au fun vr vn hvr hvn hvl => ?_; try simp only [List.length_cons, List.length_nil] at hvl) | fail)
          all_goals (try cbv)
          all_goals first
            | (exfalso; omega)
            | exact hA _ _ ⟨by omega, by omega, hnext hi _ hv⟩ (by omega) rfl
        · rw [decide_eq_false (by rw [hok]; omega), Bool.false_and] at hi
          clear hok hGP hGM hx hnz hnext
          try rw [← hP] at cm
          try rw [← hP] at cq
          try rw [← hP] at cu
          repeat' (cbv; first | refine .y ?_ | refine .n ?_ | refine .split (fun hc => ?_) fun hc => ?_ | refine EqQ.ints rfl (fun hc => ?_) fun hc => ?_ | refine .row ga ?_ | refine .go cm ?_ | refine .go cq ?_ | refine .go cu ?_ | refine .ln hmm ?_ | refine .ln hnu ?_ | refine .wa fun v hv => ?_ | refine .ra fun v hv => ?_ | refine .qa fun v hv => ?_ | refine .len fun v hv => ?_ | refine .all True.intro fun v hv => ?_ | refine Lt.to (by decide) rfl ?_ | (refine .au fun vr vn hvr hvn hvl => ?_; try simp only [List.length_cons, List.length_nil] at hvl) | fail)
          all_goals (try cbv)
          all_goals first
            | (have hbe : b = false := hi
               subst hbe; (refine hQ _ ?_; exact ⟨rfl, rfl, rfl, rfl, rfl⟩))
            | (exfalso; omega)
    rw [hd, allI, Bool.true_and, hT2] at hi
    clear hd hA hT2
    repeat' (cbv; first | refine .y ?_ | refine .n ?_ | refine .split (fun hc => ?_) fun hc => ?_ | refine EqQ.ints rfl (fun hc => ?_) fun hc => ?_ | refine .ln hmm ?_ | refine .wa fun v hv => ?_ | refine .ra fun v hv => ?_ | refine .qa fun v hv => ?_ | refine .len fun v hv => ?_ | refine .all True.intro fun v hv => ?_ | refine Lt.to (by decide) rfl ?_ | (refine .au fun vr vn hvr hvn hvl => ?_; try simp only [List.length_cons, List.length_nil] at hvl) | fail)
    all_goals (try cbv)
    clear e i1 i0
    refine LoopQ.to (ι := Int) (fun i => ⟨tab .undef [(1, .ptr 100 0), (172, .sl false 2 rm), (173, .int .i64 nm), (174, .int .i64 i)], tab .dead [(100, .box (stL rp rg rq rm rl c0 c1 c2 c3 r0 r1 r2 r3 rt ck pr))]⟩)
      (fun i => 0 ≤ i ∧ i.toNat ≤ ms.length ∧ b = (allI GM i (ms.drop i.toNat) && T3)) (fun i => ms.length - i.toNat) 0 ⟨by omega, by omega, hi⟩ rfl fun i ⟨i0, i1, hi⟩ A hA => ?_
    rcases drop_cases i1 with ⟨e, hd⟩ | ⟨hlt, x, hd, hx⟩
    case inr =>
      rw [hd, allI, Bool.and_assoc] at hi
      have ga := getD_rows h_rm hx
      obtain ⟨T, hT⟩ : ∃ T, T = (allI GM (i + 1) (ms.drop (i.toNat + 1)) && T3) := ⟨_, rfl⟩
      rw [← hT] at hi
      have hnext : b = T → ∀ v : Int, v = i + 1 → b = (allI GM v (ms.drop v.toNat) && T3) := fun e v hv => by
        rw [e, hT, show v.toNat = i.toNat + 1 by omega, hv]
      clear hT hT3 hd
      rw [hGM] at hi
      obtain ⟨xp, xg⟩ := x
      dsimp only at hi
      by_cases hr : 1 ≤ xp ∧ xp ≤ 8
      · obtain ⟨k, hk⟩ : ∃ k : Int, k = xp - 1 := ⟨_, rfl⟩
        obtain ⟨y, hy⟩ : ∃ y, ps[k.toNat]? = some y := ⟨_, List.getElem?_eq_getElem (by omega)⟩
        have gy := getD_rows h_rq hy
        have hok : okMp s0 i ⟨xp, xg⟩ = (0 ≤ xp ∧ xp ≤ 8 ∧ (xp = 0 ∨ y.m = i + 1)) := by
          unfold okMp
          dsimp only
          rw [e1, show xp.toNat - 1 = k.toNat by omega, getD_of hy, show (ps.length : Int) = 8 by omega]
        obtain ⟨y0, y1, ⟨y2, y3, y4, y5, y6, y7, y8, y9, y10, y11⟩, y12⟩ := y
        dsimp only at hok
        by_cases hgood : y0 = i + 1
        · rw [decide_eq_true (by rw [hok]; omega), Bool.true_and] at hi
          clear hok hGP hGM hx hy
          repeat' (cbv; first | refine .y ?_ | refine .n ?_ | refine .split (fun hc => ?_) fun hc => ?_ | refine EqQ.ints rfl (fun hc => ?_) fun hc => ?_ | refine .row ga ?_ | refine .ln hq8 ?_ | refine .wn hk ?_ | refine .row gy ?_ | refine .wa fun v hv => ?_ | refine .ra fun v hv => ?_ | refine .qa fun v hv => ?_ | refine .len fun v hv => ?_ | refine .all True.intro fun v hv => ?_ | refine Lt.to (by decide) rfl ?_ | (refine .au fun vr vn hvr hvn hvl => ?_; try simp only [List.length_cons, List.length_nil] at hvl) | fail)
          all_goals (try cbv)
          exact hA _ _ ⟨by omega, by omega, hnext hi _ hv⟩ (by omega) rfl
        · rw [decide_eq_false (by rw [hok]; omega), Bool.false_and] at hi
          clear hok hGP hGM hx hy hnext
          repeat' (cbv; first | refine .y ?_ | refine .n ?_ | refine .split (fun hc => ?_) fun hc => ?_ | refine EqQ.ints rfl (fun hc => ?_) fun hc => ?_ | refine .row ga ?_ | refine .ln hq8 ?_ | refine .wn hk ?_ | refine .row gy ?_ | refine .wa fun v hv => ?_ | refine .ra fun v hv => ?_ | refine .qa fun v hv => ?_ | refine .len fun v hv => ?_ | refine .all True.intro fun v hv => ?_ | refine Lt.to (by decide) rfl ?_ | (refine .au fun vr vn hvr hvn hvl => ?_; try simp only [List.length_cons, List.length_nil] at hvl) | fail)
          all_goals (try cbv)
          all_goals first
            | (have hbe : b = false := hi
               subst hbe; (refine hQ _ ?_; exact ⟨rfl, rfl, rfl, rfl, rfl⟩))
            | (exfalso; omega)
      · by_cases h0 : xp = 0
        · rw [decide_eq_true (by unfold okMp; dsimp only; omega), Bool.true_and] at hi
          clear hGP hGM hx
          repeat' (cbv; first | refine .y ?_ | refine .n ?_ | refine .split (fun hc => ?_) fun hc => ?_ | refine EqQ.ints rfl (fun hc => ?_) fun hc => ?_ | refine .row ga ?_ | refine .ln hq8 ?_ | refine .wa fun v hv => ?_ | refine .ra fun v hv => ?_ | refine .qa fun v hv => ?_ | refine .len fun v hv => ?_ | refine .all True.intro fun v hv => ?_ | refine Lt.to (by decide) rfl ?_ | (refine .au fun vr vn hvr hvn hvl => ?_; try simp only [List.length_cons, List.length_nil] at hvl) | fail)
          all_goals (try cbv)
          exact hA _ _ ⟨by omega, by omega, hnext hi _ hv⟩ (by omega) rfl
        · rw [decide_eq_false (by unfold okMp; dsimp only; rw [e1]; omega), Bool.false_and] at hi
          clear hGP hGM hx hnext
          repeat' (cbv; first | refine .y ?_ | refine .n ?_ | refine .split (fun hc => ?_) fun hc => ?_ | refine EqQ.ints rfl (fun hc => ?_) fun hc => ?_ | refine .row ga ?_ | refine .ln hq8 ?_ | refine .wa fun v hv => ?_ | refine .ra fun v hv => ?_ | refine .qa fun v hv => ?_ | refine .len fun v hv => ?_ | refine .all True.intro fun v hv => ?_ | refine Lt.to (by decide) rfl ?_ | (refine .au fun vr vn hvr hvn hvl => ?_; try simp only [List.length_cons, List.length_nil] at hvl) | fail)
          all_goals (try cbv)
          all_goals first
            | (have hbe : b = false := hi
               subst hbe; (refine hQ _ ?_; exact ⟨rfl, rfl, rfl, rfl, rfl⟩))
            | (exfalso; omega)
    rw [hd, allI, Bool.true_and, hT3] at hi
    clear hd hA hT3 hGP hGM h_rg h_rm h_rq h_rp e1 e2 e3
    repeat' (cbv; first | refine .y ?_ | refine .n ?_ | refine .split (fun hc => ?_) fun hc => ?_ | refine EqQ.ints rfl (fun hc => ?_) fun hc => ?_ | refine .wa fun v hv => ?_ | refine .ra fun v hv => ?_ | refine .qa fun v hv => ?_ | refine .len fun v hv => ?_ | refine .all True.intro fun v hv => ?_ | refine Lt.to (by decide) rfl ?_ | (refine .au fun vr vn hvr hvn hvl => ?_; try simp only [List.length_cons, List.length_nil] at hvl) | fail)
    all_goals (try cbv)
    clear e i1 i0
    refine LoopQ.to (ι := Int) (fun i => ⟨tab .undef [(1, .ptr 100 0), (210, .agg [.int .i64 c0, .int .i64 c1, .int .i64 c2, .int .i64 c3]), (211, .int .i64 i)], tab .dead [(100, .box (stL rp rg rq rm rl c0 c1 c2 c3 r0 r1 r2 r3 rt ck pr))]⟩)
      (fun i => (i = 0 ∧ b = (okCt c0 w0 && (okCt c1 w1 && (okCt c2 w2 && okCt c3 w3)))) ∨ (i = 1 ∧ b = (okCt c1 w1 && (okCt c2 w2 && okCt c3 w3))) ∨ (i = 2 ∧ b = (okCt c2 w2 && okCt c3 w3)) ∨ (i = 3 ∧ b = okCt c3 w3) ∨ (i = 4 ∧ b = true))
      (fun i => (4 - i).toNat) 0 (.inl ⟨rfl, hi⟩) rfl fun i hi A hA => ?_
    rcases hi with ⟨rfl, hi⟩ | ⟨rfl, hi⟩ | ⟨rfl, hi⟩ | ⟨rfl, hi⟩ | ⟨rfl, hi⟩
    · by_cases hc0 : 0 ≤ c0 ∧ c0 ≤ 1000000 ∧ (c0 ≤ 0 ∨ w0.length = 0)
      · rw [show okCt c0 w0 = true from decide_eq_true hc0, Bool.true_and] at hi
        repeat' (cbv; first | refine .y ?_ | refine .n ?_ | refine .split (fun hc => ?_) fun hc => ?_ | refine EqQ.ints rfl (fun hc => ?_) fun hc => ?_ | refine .wa fun v hv => ?_ | refine .ra fun v hv => ?_ | refine .qa fun v hv => ?_ | refine .len fun v hv => ?_ | refine .all True.intro fun v hv => ?_ | refine Lt.to (by decide) rfl ?_ | (refine .au fun vr vn hvr hvn hvl => ?_; try simp only [List.length_cons, List.length_nil] at hvl) | fail)
        all_goals (try cbv)
        all_goals first
          | exact hA v _ (.inr (.inl ⟨hv, hi⟩)) (by omega) rfl
          | (exfalso; omega)
      · rw [show okCt c0 w0 = false from decide_eq_false hc0, Bool.false_and] at hi
        repeat' (cbv; first | refine .y ?_ | refine .n ?_ | refine .split (fun hc => ?_) fun hc => ?_ | refine EqQ.ints rfl (fun hc => ?_) fun hc => ?_ | refine .wa fun v hv => ?_ | refine .ra fun v hv => ?_ | refine .qa fun v hv => ?_ | refine .len fun v hv => ?_ | refine .all True.intro fun v hv => ?_ | refine Lt.to (by decide) rfl ?_ | (refine .au fun vr vn hvr hvn hvl => ?_; try simp only [List.length_cons, List.length_nil] at hvl) | fail)
        all_goals (try cbv)
        all_goals first
          | (have hbe : b = false := hi
             subst hbe; (refine hQ _ ?_; exact ⟨rfl, rfl, rfl, rfl, rfl⟩))
          | (exfalso; omega)
    · by_cases hc0 : 0 ≤ c1 ∧ c1 ≤ 1000000 ∧ (c1 ≤ 0 ∨ w1.length = 0)
      · rw [show okCt c1 w1 = true from decide_eq_true hc0, Bool.true_and] at hi
        repeat' (cbv; first | refine .y ?_ | refine .n ?_ | refine .split (fun hc => ?_) fun hc => ?_ | refine EqQ.ints rfl (fun hc => ?_) fun hc => ?_ | refine .wa fun v hv => ?_ | refine .ra fun v hv => ?_ | refine .qa fun v hv => ?_ | refine .len fun v hv => ?_ | refine .all True.intro fun v hv => ?_ | refine Lt.to (by decide) rfl ?_ | (refine .au fun vr vn hvr hvn hvl => ?_; try simp only [List.length_cons, List.length_nil] at hvl) | fail)
        all_goals (try cbv)
        all_goals first
          | exact hA v _ (.inr (.inr (.inl ⟨hv, hi⟩))) (by omega) rfl
          | (exfalso; omega)
      · rw [show okCt c1 w1 = false from decide_eq_false hc0, Bool.false_and] at hi
        repeat' (cbv; first | refine .y ?_ | refine .n ?_ | refine .split (fun hc => ?_) fun hc => ?_ | refine EqQ.ints rfl (fun hc => ?_) fun hc => ?_ | refine .wa fun v hv => ?_ | refine .ra fun v hv => ?_ | refine .qa fun v hv => ?_ | refine .len fun v hv => ?_ | refine .all True.intro fun v hv => ?_ | refine Lt.to (by decide) rfl ?_ | (refine .au fun vr vn hvr hvn hvl => ?_; try simp only [List.length_cons, List.length_nil] at hvl) | fail)
        all_goals (try cbv)
        all_goals first
          | (have hbe : b = false := hi
             subst hbe; (refine hQ _ ?_; exact ⟨rfl, rfl, rfl, rfl, rfl⟩))
          | (exfalso; omega)
    · by_cases hc0 : 0 ≤ c2 ∧ c2 ≤ 1000000 ∧ (c2 ≤ 0 ∨ w2.length = 0)
      · rw [show okCt c2 w2 = true from decide_eq_true hc0, Bool.true_and] at hi
        repeat' (cbv; first | refine .y ?_ | refine .n ?_ | refine .split (fun hc => ?_) fun hc => ?_ | refine EqQ.ints rfl (fun hc => ?_) fun hc => ?_ | refine .wa fun v hv => ?_ | refine .ra fun v hv => ?_ | refine .qa fun v hv => ?_ | refine .len fun v hv => ?_ | refine .all True.intro fun v hv => ?_ | refine Lt.to (by decide) rfl ?_ | (refine .au fun vr vn hvr hvn hvl => ?_; try simp only [List.length_cons, List.length_nil] at hvl) | fail)
        all_goals (try cbv)
        all_goals first
          | exact hA v _ (.inr (.inr (.inr (.inl ⟨hv, hi⟩)))) (by omega) rfl
          | (exfalso; omega)
      · rw [show okCt c2 w2 = false from decide_eq_false hc0, Bool.false_and] at hi
        repeat' (cbv; first | refine .y ?_ | refine .n ?_ | refine .split (fun hc => ?_) fun hc => ?_ | refine EqQ.ints rfl (fun hc => ?_) fun hc => ?_ | refine .wa fun v hv => ?_ | refine .ra fun v hv => ?_ | refine .qa fun v hv => ?_ | refine .len fun v hv => ?_ | refine .all True.intro fun v hv => ?_ | refine Lt.to (by decide) rfl ?_ | (refine .au fun vr vn hvr hvn hvl => ?_; try simp only [List.length_cons, List.length_nil] at hvl) | fail)
        all_goals (try cbv)
        all_goals first
          | (have hbe : b = false := hi
             subst hbe; (refine hQ _ ?_; exact ⟨rfl, rfl, rfl, rfl, rfl⟩))
          | (exfalso; omega)
    · by_cases hc0 : 0 ≤ c3 ∧ c3 ≤ 1000000 ∧ (c3 ≤ 0 ∨ w3.length = 0)
      · rw [show okCt c3 w3 = true from decide_eq_true hc0] at hi
        repeat' (cbv; first | refine .y ?_ | refine .n ?_ | refine .split (fun hc => ?_) fun hc => ?_ | refine EqQ.ints rfl (fun hc => ?_) fun hc => ?_ | refine .wa fun v hv => ?_ | refine .ra fun v hv => ?_ | refine .qa fun v hv => ?_ | refine .len fun v hv => ?_ | refine .all True.intro fun v hv => ?_ | refine Lt.to (by decide) rfl ?_ | (refine .au fun vr vn hvr hvn hvl => ?_; try simp only [List.length_cons, List.length_nil] at hvl) | fail)
        all_goals (try cbv)
        all_goals first
          | exact hA v _ (.inr (.inr (.inr (.inr ⟨hv, hi⟩)))) (by omega) rfl
          | (exfalso; omega)
      · rw [show okCt c3 w3 = false from decide_eq_false hc0] at hi
        repeat' (cbv; first | refine .y ?_ | refine .n ?_ | refine .split (fun hc => ?_) fun hc => ?_ | refine EqQ.ints rfl (fun hc => ?_) fun hc => ?_ | refine .wa fun v hv => ?_ | refine .ra fun v hv => ?_ | refine .qa fun v hv => ?_ | refine .len fun v hv => ?_ | refine .all True.intro fun v hv => ?_ | refine Lt.to (by decide) rfl ?_ | (refine .au fun vr vn hvr hvn hvl => ?_; try simp only [List.length_cons, List.length_nil] at hvl) | fail)
        all_goals (try cbv)
        all_goals first
          | (have hbe : b = false := hi
             subst hbe; (refine hQ _ ?_; exact ⟨rfl, rfl, rfl, rfl, rfl⟩))
          | (exfalso; omega)
    · repeat' (cbv; first | refine .y ?_ | refine .n ?_ | refine .split (fun hc => ?_) fun hc => ?_ | refine EqQ.ints rfl (fun hc => ?_) fun hc => ?_ | refine .wa fun v hv => ?_ | refine .ra fun v hv => ?_ | refine .qa fun v hv => ?_ | refine .len fun v hv => ?_ | refine .all True.intro fun v hv => ?_ | refine Lt.to (by decide) rfl ?_ | (refine .au fun vr vn hvr hvn hvl => ?_; try simp only [List.length_cons, List.length_nil] at hvl) | fail)
      all_goals (try cbv)
      have hbe : b = true := by exact hi
      subst hbe; refine hQ _ ?_; exact ⟨rfl, rfl, rfl, rfl, rfl⟩
  · rw [decide_eq_false hlin, Bool.false_and, Bool.and_false] at hb
    clear cl ct
    cases bp
    all_goals
      try rw [← hP] at cp
      repeat' (cbv; first | refine .y ?_ | refine .n ?_ | refine .split (fun hc => ?_) fun hc => ?_ | refine EqQ.ints rfl (fun hc => ?_) fun hc => ?_ | refine .go cp ?_ | refine .wa fun v hv => ?_ | refine .ra fun v hv => ?_ | refine .qa fun v hv => ?_ | refine .len fun v hv => ?_ | refine .all True.intro fun v hv => ?_ | refine Lt.to (by decide) rfl ?_ | (refine .au fun vr vn hvr hvn hvl => ?_; try simp only [List.length_cons, List.length_nil] at hvl) | fail)
      all_goals (try cbv)
      all_goals first
        | (have hbe : b = false := hb
           subst hbe; (refine hQ _ ?_; exact ⟨rfl, rfl, rfl, rfl, rfl⟩))
        | (exfalso; omega)
end Go.Ab

namespace Go.Ab
open Go Go.Proofs
set_option maxRecDepth 100000

def fT (f : List ID) : List V := [.sl true 2 (f.map jC)]
theorem freshR_jC (l : List ID) : V.freshR (l.map jC) = true := by
  induction l with
  | nil => rfl
  | cons x l ih => simp only [List.map_cons, V.freshR, ih, Bool.and_true]; rfl
theorem fr_fT (l : List (List ID)) : okRows true (l.map fT) = true := okRows_map fT (fun f => by
  have := freshR_jC f
  simp [fT, V.fresh, this]) l
def stT (s : SD) : List V :=
  [.own 1 (s.prog.map fT), .own 5 (s.gs.map gC), .own 13 (s.ps.map pC), .own 2 (s.ms.map mC), .own 1 (s.gl.map iC), .int .i64 s.c0, .int .i64 s.c1, .int .i64 s.c2, .int .i64 s.c3, .own 1 (s.w0.map iC), .own 1 (s.w1.map iC), .own 1 (s.w2.map iC), .own 1 (s.w3.map iC), .own 2 (s.ts.map tC), .int .i64 s.ck, .int .i64 s.pr]
structure CopI where
  i : Int
  q : V
  o : AO
  rs : List (List V)
set_option maxHeartbeats 8000000 in
theorem c25 (s : SD) (hs : Fit s) : CallsV Try.prog 25 [.agg (stC s)] (.agg (stT s)) [.undef] true := by
  have hcode := hs.code
  have hprog := hs.prog
  have hgs := hs.gs
  have hps := hs.ps
  have hms := hs.ms
  have hts := hs.ts
  have cl := c53 s.gl hs.gl
  have k0 := c53 s.w0 hs.w0
  have k1 := c53 s.w1 hs.w1
  have k2 := c53 s.w2 hs.w2
  have k3 := c53 s.w3 hs.w3
  clear hs
  unfold stT
  obtain ⟨prog, gs, ps, ms, gl, c0, c1, c2, c3, w0, w1, w2, w3, ts, ck, pr⟩ := s
  obtain ⟨rp, rg, rq, rm, rl, r0, r1, r2, r3, rt, ⟨h_rp, s_rp, l_rp⟩, ⟨h_rg, s_rg, l_rg⟩, ⟨h_rq, s_rq, l_rq⟩, ⟨h_rm, s_rm, l_rm⟩, ⟨h_rl, s_rl, l_rl⟩, ⟨h_r0, s_r0, l_r0⟩, ⟨h_r1, s_r1, l_r1⟩, ⟨h_r2, s_r2, l_r2⟩, ⟨h_r3, s_r3, l_r3⟩, ⟨h_rt, s_rt, l_rt⟩, hst_⟩ := stR prog gs ps ms gl c0 c1 c2 c3 w0 w1 w2 w3 ts ck pr
  dsimp only at hcode hprog hgs hps hms hts cl k0 k1 k2 k3
  rw [hst_]
  rw [← h_rl] at cl
  rw [← h_r0] at k0
  rw [← h_r1] at k1
  rw [← h_r2] at k2
  rw [← h_r3] at k3
  dsimp only
  rw [← h_rg, ← h_rq, ← h_rm, ← h_rl, ← h_r0, ← h_r1, ← h_r2, ← h_r3, ← h_rt]
  refine callsV_q hD Try.func25 ok25x rfl rfl (by simp only [List.map_cons, List.map_nil, V.sh, V.shL, stL, s_rp, s_rg, s_rq, s_rm, s_rl, s_r0, s_r1, s_r2, s_r3, s_rt]) fun P Q hP hQ => ?_
  repeat' (cbv; first | refine .y ?_ | refine .n ?_ | refine .split (fun hc => ?_) fun hc => ?_ | refine EqQ.ints rfl (fun hc => ?_) fun hc => ?_ | refine .wa fun v hv => ?_ | refine .ra fun v hv => ?_ | refine .qa fun v hv => ?_ | refine .len fun v hv => ?_ | refine .all True.intro fun v hv => ?_ | refine Lt.to (by decide) rfl ?_ | (refine .au fun vr vn hvr hvn hvl => ?_; try simp only [List.length_cons, List.length_nil] at hvl) | fail)
  all_goals (try cbv)
  refine LoopQ.to (ι := CopI) (fun p => ⟨tab .undef [(1, .ptr 100 0), (2, .ptr 101 0), (3, .ptr 112 0), (4, .int .i64 p.i)], tab .dead [(100, .box (stL rp rg rq rm rl c0 c1 c2 c3 r0 r1 r2 r3 rt ck pr)), (101, .box [.nils 1, .nils 5, .nils 13, .nils 2, .nils 1, .int .i64 0, .int .i64 0, .int .i64 0, .int .i64 0, .nils 1, .nils 1, .nils 1, .nils 1, .nils 2, .int .i64 0, .int .i64 0]),
    (112, .box [p.q, .nils 5, .nils 13, .nils 2, .nils 1, .int .i64 c0, .int .i64 c1, .int .i64 c2, .int .i64 c3, .nils 1, .nils 1, .nils 1, .nils 1, .nils 2, .int .i64 ck, .int .i64 pr]), (113, p.o)]⟩)
    (fun p => 0 ≤ p.i ∧ p.i.toNat ≤ prog.length ∧ p.rs = (prog.take p.i.toNat).map fT ∧ ((p.rs = [] ∧ p.q = .nils 1 ∧ p.o = .dead) ∨ ∃ n, n = p.rs.length ∧ p.q = .sref 113 0 n ∧ p.o = .rows 1 p.rs)) (fun p => prog.length - p.i.toNat) ⟨0, .nils 1, .dead, []⟩ ⟨by simp, by simp, by simp, .inl ⟨rfl, rfl, rfl⟩⟩ rfl fun ⟨i, q, o, rs⟩ ⟨i0, i1, hrs, hq⟩ A hA => ?_
  dsimp only at i0 i1 hrs hq ⊢
  have lrs : rs.length = i.toNat := by
    rw [hrs]; simp; omega
  rcases drop_cases i1 with ⟨e, hd⟩ | ⟨hlt, x, hd, hx⟩
  · rw [e, List.take_length] at hrs
    rcases hq with ⟨hr0, rfl, rfl⟩ | ⟨n, hn, rfl, rfl⟩
    · rw [hr0] at hrs lrs
      clear hr0
      try rw [← hP] at cl
      try rw [← hP] at k0
      try rw [← hP] at k1
      try rw [← hP] at k2
      try rw [← hP] at k3
      repeat' (cbv; first | refine .y ?_ | refine .n ?_ | refine .split (fun hc => ?_) fun hc => ?_ | refine EqQ.ints rfl (fun hc => ?_) fun hc => ?_ | refine .go cl ?_ | refine .go k0 ?_ | refine .go k1 ?_ | refine .go k2 ?_ | refine .go k3 ?_ | refine .wa fun v hv => ?_ | refine .ra fun v hv => ?_ | refine .qa fun v hv => ?_ | refine .len fun v hv => ?_ | refine .all True.intro fun v hv => ?_ | refine Lt.to (by decide) rfl ?_ | (refine .au fun vr vn hvr hvn hvl => ?_; try simp only [List.length_cons, List.length_nil] at hvl) | fail)
      all_goals (try cbv)
      simp only [← List.length.eq_def]
      refine hQ _ ⟨?_, rfl, ?_, rfl, rfl⟩
      · subst_vars
        simp [t25x, RV.ev, pack, resG, giveC, tab, pickc]
        exact List.map_eq_nil_iff.1 hrs.symm
      · have f1 := fr_gC gs
        have f2 := fr_pC ps
        have f3 := fr_mC ms
        have f4 := fr_tC ts
        have f5 := fr_iC gl
        have f6 := fr_iC w0
        have f7 := fr_iC w1
        have f8 := fr_iC w2
        have f9 := fr_iC w3
        have f0 := fr_fT prog
        unfold okRows at f0 f1 f2 f3 f4 f5 f6 f7 f8 f9
        subst_vars
        simp [t25x, RV.ev, V.notTup, V.cells, resG, giveC, okGood, tab, pickc, V.fresh, V.closed] at *
        exact ⟨f1, f2, f3, f5, f6, f7, f8, f9, f4⟩
    · try rw [← hP] at cl
      try rw [← hP] at k0
      try rw [← hP] at k1
      try rw [← hP] at k2
      try rw [← hP] at k3
      repeat' (cbv; first | refine .y ?_ | refine .n ?_ | refine .split (fun hc => ?_) fun hc => ?_ | refine EqQ.ints rfl (fun hc => ?_) fun hc => ?_ | refine .go cl ?_ | refine .go k0 ?_ | refine .go k1 ?_ | refine .go k2 ?_ | refine .go k3 ?_ | refine .wa fun v hv => ?_ | refine .ra fun v hv => ?_ | refine .qa fun v hv => ?_ | refine .len fun v hv => ?_ | refine .all True.intro fun v hv => ?_ | refine Lt.to (by decide) rfl ?_ | (refine .au fun vr vn hvr hvn hvl => ?_; try simp only [List.length_cons, List.length_nil] at hvl) | fail)
      all_goals (try cbv)
      simp only [← List.length.eq_def]
      refine hQ _ ⟨?_, rfl, ?_, rfl, rfl⟩
      · subst_vars
        simp [t25x, RV.ev, pack, resG, giveC, tab, pickc]
      · have f1 := fr_gC gs
        have f2 := fr_pC ps
        have f3 := fr_mC ms
        have f4 := fr_tC ts
        have f5 := fr_iC gl
        have f6 := fr_iC w0
        have f7 := fr_iC w1
        have f8 := fr_iC w2
        have f9 := fr_iC w3
        have f0 := fr_fT prog
        unfold okRows at f0 f1 f2 f3 f4 f5 f6 f7 f8 f9
        subst_vars
        simp [t25x, RV.ev, V.notTup, V.cells, resG, giveC, okGood, tab, pickc, V.fresh, V.closed] at *
        exact ⟨f0, f1, f2, f3, f5, f6, f7, f8, f9, f4⟩
  · have ht := take_succ_of hx
    obtain ⟨rf, h_rf⟩ : ∃ r, r = x.map jC := ⟨_, rfl⟩
    have s_rf : V.shR rf = rf := by rw [h_rf]; exact shR_jC x
    have l_rf : rf.length = x.length := by simp [h_rf]
    have ga : rp.getD i.toNat [] = [.sl false 2 rf] := by rw [getD_rows h_rp hx, h_rf]; rfl
    have lf : x.length ≤ 1000000 := hcode x (mem_of_get hx)
    have hnext : rs ++ [[.sl true 2 rf]] = (prog.take (i.toNat + 1)).map fT := by rw [ht, hrs, h_rf]; simp [fT]
    clear hrs ht
    rcases hq with ⟨hr0, rfl, rfl⟩ | ⟨n, hn, rfl, rfl⟩
    · rw [hr0] at hnext lrs
      clear hr0
      repeat' (cbv; first | refine .y ?_ | refine .n ?_ | refine .split (fun hc => ?_) fun hc => ?_ | refine EqQ.ints rfl (fun hc => ?_) fun hc => ?_ | refine .row ga ?_ | refine .wa fun v hv => ?_ | refine .ra fun v hv => ?_ | refine .qa fun v hv => ?_ | refine .len fun v hv => ?_ | refine .all True.intro fun v hv => ?_ | refine Lt.to (by decide) rfl ?_ | (refine .au fun vr vn hvr hvn hvl => ?_; try simp only [List.length_cons, List.length_nil] at hvl) | fail)
      all_goals (try cbv)
      refine hA ⟨v, .sref 113 0 vn, .rows 1 vr, vr⟩ _ ⟨by dsimp only; omega, by dsimp only; omega, ?_, .inr ⟨vn, hvn, rfl, rfl⟩⟩ (by dsimp only; omega) rfl
      dsimp only
      rename_i u un hu hun hul
      rw [show v.toNat = i.toNat + 1 by omega, ← hnext, hvr, hu]; rfl
    · repeat' (cbv; first | refine .y ?_ | refine .n ?_ | refine .split (fun hc => ?_) fun hc => ?_ | refine EqQ.ints rfl (fun hc => ?_) fun hc => ?_ | refine .row ga ?_ | refine .wa fun v hv => ?_ | refine .ra fun v hv => ?_ | refine .qa fun v hv => ?_ | refine .len fun v hv => ?_ | refine .all True.intro fun v hv => ?_ | refine Lt.to (by decide) rfl ?_ | (refine .au fun vr vn hvr hvn hvl => ?_; try simp only [List.length_cons, List.length_nil] at hvl) | fail)
      all_goals (try cbv)
      refine hA ⟨v, .sref 113 0 vn, .rows 1 vr, vr⟩ _ ⟨by dsimp only; omega, by dsimp only; omega, ?_, .inr ⟨vn, hvn, rfl, rfl⟩⟩ (by dsimp only; omega) rfl
      dsimp only
      rename_i u un hu hun hul
      rw [show v.toNat = i.toNat + 1 by omega, ← hnext, hvr, hu]; rfl

def newS (p : List (List ID)) (k : Int) : SD := ⟨p, [⟨0, 0, 1, 0, 0⟩], List.replicate 8 default, [], [1], 0, 0, 0, 0, [], [], [], [], [], 0, k⟩
def newV (p : List (List ID)) (k : Int) : V :=
  .agg [.sl false 1 (p.map fC), .sl true 5 ((newS p k).gs.map gC), .sl true 13 ((newS p k).ps.map pC), .own 2 [], .sl true 1 ((newS p k).gl.map iC), .int .i64 0, .int .i64 0, .int .i64 0, .int .i64 0, .own 1 [], .own 1 [], .own 1 [], .own 1 [], .own 2 [], .int .i64 0, .int .i64 k]
def zeroV : V :=
  .agg [.own 1 [], .own 5 [], .own 13 [], .own 2 [], .own 1 [], .int .i64 0, .int .i64 0, .int .i64 0, .int .i64 0, .own 1 [], .own 1 [], .own 1 [], .own 1 [], .own 2 [], .int .i64 0, .int .i64 0]
set_option maxHeartbeats 4000000 in
theorem c12 (p : List (List ID)) (hp : p.length ≤ 1000000) (hf : ∀ f ∈ p, f.length ≤ 1000000) (k : Int) (b : Bool) (hb : b = (mayP p && decide (1 ≤ k ∧ k ≤ 8))) :
    CallsV Try.prog 12 [.sl false 1 (p.map fC), .int .i64 k] (.tup [if b = true then newV p k else zeroV, .int .i64 (if b = true then 0 else 1)]) [.undef, .undef] false := by
  obtain ⟨bm, hbm⟩ : ∃ b, b = mayP p := ⟨_, rfl⟩
  have cm := c24 p hp hf bm hbm
  rw [← hbm] at hb
  clear hbm
  unfold newV
  obtain ⟨ra, h_ra⟩ : ∃ r, r = p.map fC := ⟨_, rfl⟩
  have s_ra : V.shR ra = ra := by rw [h_ra]; exact shR_fC p
  have l_ra : ra.length = p.length := by simp [h_ra]
  rw [← h_ra] at cm ⊢
  by_cases hk : 1 ≤ k ∧ k ≤ 8
  · rw [decide_eq_true hk, Bool.and_true] at hb
    subst hb
    cases b with
    | true =>
      rw [if_pos rfl, if_pos rfl]
      refine callsV_q hD Try.func12 ok12 rfl rfl (by simp only [List.map_cons, List.map_nil, V.sh, V.shL, stL, s_ra]) fun P Q hP hQ => ?_
      try rw [← hP] at cm
      repeat' (cbv; first | refine .y ?_ | refine .n ?_ | refine .split (fun hc => ?_) fun hc => ?_ | refine EqQ.ints rfl (fun hc => ?_) fun hc => ?_ | refine .go cm ?_ | refine .wa fun v hv => ?_ | refine .ra fun v hv => ?_ | refine .qa fun v hv => ?_ | refine .len fun v hv => ?_ | refine .all True.intro fun v hv => ?_ | refine Lt.to (by decide) rfl ?_ | (refine .au fun vr vn hvr hvn hvl => ?_; try simp only [List.length_cons, List.length_nil] at hvl) | fail)
      all_goals (try cbv)
      (refine hQ _ ?_; exact ⟨rfl, rfl, rfl, rfl, rfl⟩)
    | false =>
      rw [if_neg (by decide), if_neg (by decide)]
      refine callsV_q hD Try.func12 ok12 rfl rfl (by simp only [List.map_cons, List.map_nil, V.sh, V.shL, stL, s_ra]) fun P Q hP hQ => ?_
      try rw [← hP] at cm
      repeat' (cbv; first | refine .y ?_ | refine .n ?_ | refine .split (fun hc => ?_) fun hc => ?_ | refine EqQ.ints rfl (fun hc => ?_) fun hc => ?_ | refine .go cm ?_ | refine .wa fun v hv => ?_ | refine .ra fun v hv => ?_ | refine .qa fun v hv => ?_ | refine .len fun v hv => ?_ | refine .all True.intro fun v hv => ?_ | refine Lt.to (by decide) rfl ?_ | (refine .au fun vr vn hvr hvn hvl => ?_; try simp only [List.length_cons, List.length_nil] at hvl) | fail)
      all_goals (try cbv)
      (refine hQ _ ?_; exact ⟨rfl, rfl, rfl, rfl, rfl⟩)
  · rw [decide_eq_false hk, Bool.and_false] at hb
    subst hb
    rw [if_neg (by decide), if_neg (by decide)]
    refine callsV_q hD Try.func12 ok12 rfl rfl (by simp only [List.map_cons, List.map_nil, V.sh, V.shL, stL, s_ra]) fun P Q hP hQ => ?_
    cases bm
    all_goals
      try rw [← hP] at cm
      repeat' (cbv; first | refine .y ?_ | refine .n ?_ | refine .split (fun hc => ?_) fun hc => ?_ | refine EqQ.ints rfl (fun hc => ?_) fun hc => ?_ | refine .go cm ?_ | refine .wa fun v hv => ?_ | refine .ra fun v hv => ?_ | refine .qa fun v hv => ?_ | refine .len fun v hv => ?_ | refine .all True.intro fun v hv => ?_ | refine Lt.to (by decide) rfl ?_ | (refine .au fun vr vn hvr hvn hvl => ?_; try simp only [List.length_cons, List.length_nil] at hvl) | fail)
      all_goals (try cbv)
      all_goals first
        | (refine hQ _ ?_; exact ⟨rfl, rfl, rfl, rfl, rfl⟩)
        | (exfalso; omega)
end Go.Ab
