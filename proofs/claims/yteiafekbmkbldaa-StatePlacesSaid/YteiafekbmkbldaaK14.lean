/-
  The arguments of the laws of the stage 'state', as they are read.
  The arguments of the laws of the stage 'state', second part.
  Plain facts of states that may be: for the stage's theorem and what follows from it.
-/
import Derived.ProofKit
import Derived.Test.YteiafekbmkbldaaK4
import Derived.Test.YteiafekbmkbldaaK8
import Derived.Test.YteiafekbmkbldaaK10
import Derived.Test.YteiafekbmkbldaaK12
import Derived.Test.YteiafekbmkbldaaK13
set_option linter.all false
namespace Go.Ab
open Go Go.Proofs Go.RowKit Go.ChangeShapes
set_option maxRecDepth 100000

section
variable {P : Program} {B : Nat}
def flatI (P : Program) : Nat → TypeId → Bool
  | 0, _ => false
  | d + 1, t => match P.underlying t with
    | some (.int .i64) => true
    | some (.struct fs) => tiles P fs.toList 0 (P.cellsOf t) && fs.toList.all fun f => flatI P d f.type
    | some (.array n e) => n * P.cellsOf e == P.cellsOf t && flatI P d e
    | _ => false
theorem tiles_cover : ∀ (fs : List Field) (off total : Nat), tiles P fs off total = true → ∀ j, off ≤ j → j < total → ∃ f ∈ fs, f.offset ≤ j ∧ j < f.offset + P.cellsOf f.type
  | [], off, total, h, j, h1, h2 => by
    simp only [tiles, beq_iff_eq] at h
    omega
  | f :: fs, off, total, h, j, h1, h2 => by
    simp only [tiles, Bool.and_eq_true, beq_iff_eq] at h
    obtain ⟨rfl, h⟩ := h
    by_cases hj : j < f.offset + P.cellsOf f.type
    · exact ⟨f, by simp, h1, hj⟩
    · obtain ⟨g, hg, q⟩ := tiles_cover fs _ total h j (by omega) h2
      exact ⟨g, by simp [hg], q⟩
theorem typed_flat : ∀ (d : Nat) (t : TypeId) (vs : List V), flatI P d t = true → Typed P B d t vs → ∀ c ∈ vs, ∃ n, c = .int .i64 n
  | 0, _, _, h, _ => by simp [flatI] at h
  | d + 1, t, vs, h, ht => by
    unfold flatI at h
    unfold Typed at ht
    cases hu : P.underlying t with
    | none => rw [hu] at h; simp at h
    | some ty =>
      rw [hu] at h ht
      intro c hc
      cases ty with
      | int k =>
        obtain ⟨n, _, rfl⟩ := ht
        cases k <;> simp at h
        simp at hc
        exact ⟨n, hc⟩
      | struct fs =>
        simp only [Bool.and_eq_true, List.all_eq_true] at h
        obtain ⟨hl, hf⟩ := ht
        obtain ⟨j, hj⟩ := List.getElem?_of_mem hc
        have hlt := (List.getElem?_eq_some_iff.1 hj).1
        obtain ⟨f, hfm, q1, q2⟩ := tiles_cover _ _ _ h.1 j (Nat.zero_le _) (by omega)
        refine typed_flat d f.type _ (h.2 f hfm) (hf f hfm) c ?_
        refine List.mem_of_getElem? (i := j - f.offset) ?_
        rw [List.getElem?_take, if_pos (by omega), List.getElem?_drop, show f.offset + (j - f.offset) = j by omega]
        exact hj
      | array n e =>
        simp only [Bool.and_eq_true, beq_iff_eq] at h
        obtain ⟨hl, hf⟩ := ht
        obtain ⟨j, hj⟩ := List.getElem?_of_mem hc
        have hlt := (List.getElem?_eq_some_iff.1 hj).1
        rw [hl, ← h.1] at hlt
        have hpos : 0 < P.cellsOf e := by
          rcases Nat.eq_zero_or_pos (P.cellsOf e) with q | q
          · rw [q] at hlt; omega
          · exact q
        have hdiv : j / P.cellsOf e < n := (Nat.div_lt_iff_lt_mul hpos).2 hlt
        have hmod := Nat.mod_lt j hpos
        have hdm := Nat.div_add_mod j (P.cellsOf e)
        rw [Nat.mul_comm] at hdm
        refine typed_flat d e _ h.2 (hf (j / P.cellsOf e) hdiv) c ?_
        refine List.mem_of_getElem? (i := j % P.cellsOf e) ?_
        rw [List.getElem?_take, if_pos hmod, List.getElem?_drop, hdm]
        exact hj
      | _ => simp at h
theorem rows_map {α : Type} (f : α → List V) : ∀ (rows : List (List V)), (∀ r ∈ rows, ∃ x, r = f x) → ∃ l : List α, rows = l.map f
  | [], _ => ⟨[], rfl⟩
  | r :: rows, h => by
    obtain ⟨l, hl⟩ := rows_map f rows fun r hr => h r (by simp [hr])
    obtain ⟨x, hx⟩ := h r (by simp)
    exact ⟨x :: l, by simp [hl, hx]⟩
theorem typed_slice {α : Type} (f : α → List V) {d : Nat} {t e : TypeId} {n by_ : Nat} {vs : List V} (hu : P.underlying t = some (.slice e)) (hn : P.cellsOf e = n) (hb : P.bytesOf e = by_) (hf : ∀ r : List V, r.length = n → Typed P B d e r → ∃ x, r = f x) (h : Typed P B (d + 1) t vs) :
    ∃ l : List α, vs = [.sl false n (l.map f)] ∧ l.length * by_ ≤ B := by
  unfold Typed at h
  rw [hu] at h
  obtain ⟨rows, h1, h2, h3, rfl⟩ := h
  obtain ⟨l, hl⟩ := rows_map f rows fun r hr => hf r (by rw [← hn]; exact (h3 r hr).1) (h3 r hr).2
  subst hl
  refine ⟨l, by rw [hn], ?_⟩
  rw [List.length_map, hb] at h2
  exact h2
end

section
variable {B d : Nat} {vs : List V}
theorem mk_i (h : vs.length = 1) (hf : ∀ c ∈ vs, ∃ n, c = V.int .i64 n) : ∃ x, vs = iC x := by
  match vs, h with
  | [a], _ =>
    obtain ⟨n, rfl⟩ := hf a (by simp)
    exact ⟨n, rfl⟩
theorem mk_j (h : vs.length = 2) (hf : ∀ c ∈ vs, ∃ n, c = V.int .i64 n) : ∃ a b, vs = [.int .i64 a, .int .i64 b] := by
  match vs, h with
  | [a, b], _ =>
    obtain ⟨n, rfl⟩ := hf a (by simp)
    obtain ⟨m, rfl⟩ := hf b (by simp)
    exact ⟨n, m, rfl⟩
theorem mk_g (h : vs.length = 5) (hf : ∀ c ∈ vs, ∃ n, c = V.int .i64 n) : ∃ x, vs = gC x := by
  match vs, h with
  | [a, b, c, d, e], _ =>
    obtain ⟨a, rfl⟩ := hf a (by simp)
    obtain ⟨b, rfl⟩ := hf b (by simp)
    obtain ⟨c, rfl⟩ := hf c (by simp)
    obtain ⟨d, rfl⟩ := hf d (by simp)
    obtain ⟨e, rfl⟩ := hf e (by simp)
    exact ⟨⟨a, b, c, d, e⟩, rfl⟩
theorem mk_p (h : vs.length = 13) (hf : ∀ c ∈ vs, ∃ n, c = V.int .i64 n) : ∃ x, vs = pC x := by
  match vs, h with
  | [a0, a1, a2, a3, a4, a5, a6, a7, a8, a9, a10, a11, a12], _ =>
    obtain ⟨a0, rfl⟩ := hf a0 (by simp)
    obtain ⟨a1, rfl⟩ := hf a1 (by simp)
    obtain ⟨a2, rfl⟩ := hf a2 (by simp)
    obtain ⟨a3, rfl⟩ := hf a3 (by simp)
    obtain ⟨a4, rfl⟩ := hf a4 (by simp)
    obtain ⟨a5, rfl⟩ := hf a5 (by simp)
    obtain ⟨a6, rfl⟩ := hf a6 (by simp)
    obtain ⟨a7, rfl⟩ := hf a7 (by simp)
    obtain ⟨a8, rfl⟩ := hf a8 (by simp)
    obtain ⟨a9, rfl⟩ := hf a9 (by simp)
    obtain ⟨a10, rfl⟩ := hf a10 (by simp)
    obtain ⟨a11, rfl⟩ := hf a11 (by simp)
    obtain ⟨a12, rfl⟩ := hf a12 (by simp)
    exact ⟨⟨a0, a1, ⟨a2, a3, a4, a5, a6, a7, a8, a9, a10, a11⟩, a12⟩, rfl⟩

theorem typed_instrs (h : Typed Try.prog B (d + 5) 61 vs) : ∃ l : List ID, vs = fC l := by
  obtain ⟨l, hl, _⟩ := typed_slice jC (n := 2) (by_ := 16) (d := d + 4) (e := 63) (by kernel_rfl) (by kernel_rfl) (by kernel_rfl) (fun r hr ht => by
    obtain ⟨a, b, e⟩ := mk_j hr (typed_flat (d + 4) _ _ (by kernel_rfl) ht)
    exact ⟨⟨a, b⟩, e⟩) h
  exact ⟨l, hl⟩
theorem typed_prog (h : Typed Try.prog B (d + 6) 23 vs) : ∃ l : List (List ID), vs = [.sl false 1 (l.map fC)] ∧ l.length * 24 ≤ B :=
  typed_slice fC (n := 1) (by_ := 24) (d := d + 5) (e := 61) (by kernel_rfl) (by kernel_rfl) (by kernel_rfl) (fun r _ ht => typed_instrs ht) h
theorem typed_gs (h : Typed Try.prog B (d + 6) 24 vs) : ∃ l : List GD, vs = [.sl false 5 (l.map gC)] ∧ l.length * 40 ≤ B :=
  typed_slice gC (n := 5) (by_ := 40) (d := d + 5) (e := 50) (by kernel_rfl) (by kernel_rfl) (by kernel_rfl) (fun r hr ht => mk_g hr (typed_flat (d + 5) _ _ (by kernel_rfl) ht)) h
theorem typed_ps (h : Typed Try.prog B (d + 6) 25 vs) : ∃ l : List PD, vs = [.sl false 13 (l.map pC)] ∧ l.length * 104 ≤ B :=
  typed_slice pC (n := 13) (by_ := 104) (d := d + 5) (e := 59) (by kernel_rfl) (by kernel_rfl) (by kernel_rfl) (fun r hr ht => mk_p hr (typed_flat (d + 5) _ _ (by kernel_rfl) ht)) h
theorem typed_ms (h : Typed Try.prog B (d + 6) 26 vs) : ∃ l : List MD, vs = [.sl false 2 (l.map mC)] ∧ l.length * 16 ≤ B :=
  typed_slice mC (n := 2) (by_ := 16) (d := d + 5) (e := 83) (by kernel_rfl) (by kernel_rfl) (by kernel_rfl) (fun r hr ht => by
    obtain ⟨a, b, e⟩ := mk_j hr (typed_flat (d + 5) _ _ (by kernel_rfl) ht)
    exact ⟨⟨a, b⟩, e⟩) h
theorem typed_ts (h : Typed Try.prog B (d + 6) 30 vs) : ∃ l : List TD, vs = [.sl false 2 (l.map tC)] ∧ l.length * 16 ≤ B :=
  typed_slice tC (n := 2) (by_ := 16) (d := d + 5) (e := 87) (by kernel_rfl) (by kernel_rfl) (by kernel_rfl) (fun r hr ht => by
    obtain ⟨a, b, e⟩ := mk_j hr (typed_flat (d + 5) _ _ (by kernel_rfl) ht)
    exact ⟨⟨a, b⟩, e⟩) h
theorem typed_is (h : Typed Try.prog B (d + 2) 27 vs) : ∃ l : List Int, vs = [.sl false 1 (l.map iC)] ∧ l.length * 8 ≤ B :=
  typed_slice iC (n := 1) (by_ := 8) (d := d + 1) (e := 3) (by kernel_rfl) (by kernel_rfl) (by kernel_rfl) (fun r hr ht => mk_i hr (typed_flat (d + 1) _ _ (by kernel_rfl) ht)) h
structure Room (B : Nat) (s : SD) : Prop where
  prog : s.prog.length * 24 ≤ B
  gs : s.gs.length * 40 ≤ B
  ps : s.ps.length * 104 ≤ B
  ms : s.ms.length * 16 ≤ B
  gl : s.gl.length * 8 ≤ B
  w0 : s.w0.length * 8 ≤ B
  w1 : s.w1.length * 8 ≤ B
  w2 : s.w2.length * 8 ≤ B
  w3 : s.w3.length * 8 ≤ B
  ts : s.ts.length * 16 ≤ B
theorem typed_state (h : Typed Try.prog B (d + 7) 32 vs) : ∃ s, vs = stC s ∧ Room B s := by
  obtain ⟨fs, hu, g0, g1, g2, g3, g4, g5, g6, g7, g8, g9⟩ : ∃ fs, Try.prog.underlying 32 = some (.struct fs) ∧ (∃ f, fs[0]? = some f ∧ f.type = 23 ∧ f.offset = 0) ∧ (∃ f, fs[1]? = some f ∧ f.type = 24 ∧ f.offset = 1) ∧ (∃ f, fs[2]? = some f ∧ f.type = 25 ∧ f.offset = 2) ∧ (∃ f, fs[3]? = some f ∧ f.type = 26 ∧ f.offset = 3) ∧
      (∃ f, fs[4]? = some f ∧ f.type = 27 ∧ f.offset = 4) ∧ (∃ f, fs[5]? = some f ∧ f.type = 28 ∧ f.offset = 5) ∧ (∃ f, fs[6]? = some f ∧ f.type = 29 ∧ f.offset = 9) ∧ (∃ f, fs[7]? = some f ∧ f.type = 30 ∧ f.offset = 13) ∧ (∃ f, fs[8]? = some f ∧ f.type = 3 ∧ f.offset = 14) ∧ (∃ f, fs[9]? = some f ∧ f.type = 3 ∧ f.offset = 15) :=
    ⟨_, Try.underlying32, ⟨_, rfl, rfl, rfl⟩, ⟨_, rfl, rfl, rfl⟩, ⟨_, rfl, rfl, rfl⟩, ⟨_, rfl, rfl, rfl⟩, ⟨_, rfl, rfl, rfl⟩, ⟨_, rfl, rfl, rfl⟩, ⟨_, rfl, rfl, rfl⟩, ⟨_, rfl, rfl, rfl⟩, ⟨_, rfl, rfl, rfl⟩, ⟨_, rfl, rfl, rfl⟩⟩
  unfold Typed at h
  rw [hu] at h
  obtain ⟨hl, hf⟩ := h
  have hc : Try.prog.cellsOf 32 = 16 := by kernel_rfl
  have F : ∀ {i t o n : Nat}, (∃ f, fs[i]? = some f ∧ f.type = t ∧ f.offset = o) → Try.prog.cellsOf t = n → Typed Try.prog B (d + 6) t ((vs.drop o).take n) := fun ⟨f, h1, h2, h3⟩ hn => by
    subst h2 h3 hn
    refine hf f ?_
    exact List.mem_of_getElem? (by rw [Array.getElem?_toList]; exact h1)
  have q0 := F g0 (n := 1) (by kernel_rfl)
  have q1 := F g1 (n := 1) (by kernel_rfl)
  have q2 := F g2 (n := 1) (by kernel_rfl)
  have q3 := F g3 (n := 1) (by kernel_rfl)
  have q4 := F g4 (n := 1) (by kernel_rfl)
  have q5 := F g5 (n := 4) (by kernel_rfl)
  have q6 := F g6 (n := 4) (by kernel_rfl)
  have q7 := F g7 (n := 1) (by kernel_rfl)
  have q8 := F g8 (n := 1) (by kernel_rfl)
  have q9 := F g9 (n := 1) (by kernel_rfl)
  clear F hf g0 g1 g2 g3 g4 g5 g6 g7 g8 g9 hu fs
  rw [hc] at hl
  match vs, hl with
  | [v0, v1, v2, v3, v4, v5, v6, v7, v8, v9, v10, v11, v12, v13, v14, v15], _ =>
    simp only [List.drop_succ_cons, List.drop_zero, List.take_succ_cons, List.take_zero] at q0 q1 q2 q3 q4 q5 q6 q7 q8 q9
    obtain ⟨l0, e0, b0⟩ := typed_prog q0
    obtain ⟨l1, e1, b1⟩ := typed_gs q1
    obtain ⟨l2, e2, b2⟩ := typed_ps q2
    obtain ⟨l3, e3, b3⟩ := typed_ms q3
    obtain ⟨l4, e4, b4⟩ := typed_is q4
    have t5 := typed_flat (d + 6) _ _ (by kernel_rfl) q5
    obtain ⟨n5, e5⟩ := t5 v5 (by simp)
    obtain ⟨n6, e6⟩ := t5 v6 (by simp)
    obtain ⟨n7, e7⟩ := t5 v7 (by simp)
    obtain ⟨n8, e8⟩ := t5 v8 (by simp)
    have w : ∀ i, i < 4 → Typed Try.prog B (d + 5) 27 (([v9, v10, v11, v12].drop (i * 1)).take 1) := fun i hi => by
      unfold Typed at q6
      rw [show Try.prog.underlying 29 = some (.array 4 27) by kernel_rfl] at q6
      have := q6.2 i hi
      rwa [show Try.prog.cellsOf 27 = 1 by kernel_rfl] at this
    obtain ⟨l9, e9, b9⟩ := typed_is (w 0 (by omega))
    obtain ⟨l10, e10, b10⟩ := typed_is (w 1 (by omega))
    obtain ⟨l11, e11, b11⟩ := typed_is (w 2 (by omega))
    obtain ⟨l12, e12, b12⟩ := typed_is (w 3 (by omega))
    obtain ⟨l13, e13, b13⟩ := typed_ts q7
    obtain ⟨n14, e14⟩ := typed_flat (d + 6) _ _ (by kernel_rfl) q8 v14 (by simp)
    obtain ⟨n15, e15⟩ := typed_flat (d + 6) _ _ (by kernel_rfl) q9 v15 (by simp)
    simp only [List.cons.injEq, and_true, List.drop_succ_cons, List.drop_zero, List.take_succ_cons, List.take_zero, Nat.zero_mul, Nat.one_mul, Nat.mul_one] at e0 e1 e2 e3 e4 e9 e10 e11 e12 e13
    subst e0 e1 e2 e3 e4 e5 e6 e7 e8 e9 e10 e11 e12 e13 e14 e15
    exact ⟨⟨l0, l1, l2, l3, l4, n5, n6, n7, n8, l9, l10, l11, l12, l13, n14, n15⟩, rfl, ⟨b0, b1, b2, b3, b4, b9, b10, b11, b12, b13⟩⟩
end

section
variable {H : Type} {enc : TypeId × Value → H} {W : World} {r : Go.Reach} {b0 : Nat} {v : Value} {dt : DataW H} {p : List MemPlace} {B : Nat}
abbrev argC (W : World) : Ctx := bare W (fun b _ => b < W.heap.size) fun b => W.heap.size ≤ b
theorem open_struct {t : TypeId} {fs : Array Field} (hu : Try.prog.underlying t = some (.struct fs)) (hk : tyOk Try.prog 7 t = true) (hval : Value.okWide Try.prog W r b0 t v) (h : DataW.Trod enc Try.prog W 0 (fun _ => true) true t v dt p) (hw : ∀ w ∈ dt.weights Try.prog t, w ≤ B) :
    ∃ vs : List V, Typed Try.prog B 7 t vs ∧ R (argC W) (.agg vs) v := by
  unfold Value.okWide at hval
  rw [hu] at hval
  obtain ⟨cs, rfl, hsz, _⟩ := hval
  obtain ⟨fuel, h⟩ := h
  obtain ⟨vs, h1, h2, h3⟩ := trod_typed (F := fun b _ => b < W.heap.size) (G := fun b => W.heap.size ≤ b) (fun _ _ h => h) 7 fuel t _ _ hk h hw
  refine ⟨vs, h2, ?_⟩
  have hcs : (Value.agg cs).cells.toList = cs.toList := rfl
  rw [hcs] at h3
  have hl : vs.length = cs.toList.length := by rw [h1]; simpa using hsz.symm
  have := R.agg (C := argC W) vs cs.toList hl (fun u hu => ?_) (fun j c hj => ?_)
  · simpa using this
  · obtain ⟨j, hj⟩ := List.getElem?_of_mem hu
    have hlt := (List.getElem?_eq_some_iff.1 hj).1
    obtain ⟨u', q1, q2, _⟩ := h3 j vs[j] (by simp [hl, hlt])
    rw [hj] at q1; cases q1
    exact q2
  · obtain ⟨u, q1, _, _, q4⟩ := h3 j c hj
    rw [List.getD_eq_getElem?_getD, q1]
    exact q4
theorem open_slice {t e : TypeId} (hu : Try.prog.underlying t = some (.slice e)) (hk : tyOk Try.prog 7 t = true) (hval : Value.okWide Try.prog W r b0 t v) (h : DataW.Trod enc Try.prog W 0 (fun _ => true) true t v dt p) (hw : ∀ w ∈ dt.weights Try.prog t, w ≤ B) :
    ∃ c : V, Typed Try.prog B 7 t [c] ∧ R (argC W) c v := by
  unfold Value.okWide at hval
  rw [hu] at hval
  simp only at hval
  have hv : v.cells.toList = [v] := by
    unfold Cell.okWide at hval
    rw [hu] at hval
    cases v <;> first | rfl | (simp [Cell.ok, hu] at hval)
  obtain ⟨fuel, h⟩ := h
  rw [hv] at h
  have hc : Try.prog.cellsOf t = 1 := by
    unfold tyOk at hk
    rw [hu] at hk
    simp only [Bool.and_eq_true, beq_iff_eq] at hk
    exact hk.1.1
  obtain ⟨vs, h1, h2, h3⟩ := trod_typed (F := fun b _ => b < W.heap.size) (G := fun b => W.heap.size ≤ b) (fun _ _ h => h) 7 fuel t _ _ hk h hw
  rw [hc] at h1
  match vs, h1 with
  | [c], _ =>
    obtain ⟨u, q1, _, _, q4⟩ := h3 0 c rfl
    simp at q1
    subst q1
    exact ⟨c, h2, q4⟩
theorem open_int (hval : Value.okWide Try.prog W r b0 3 v) (h : DataW.Trod enc Try.prog W 0 (fun _ => true) true 3 v dt p) : ∃ n : Int, v = .int .i64 n := by
  have hu : Try.prog.underlying 3 = some (.int .i64) := by kernel_rfl
  unfold Value.okWide at hval
  rw [hu] at hval
  simp only at hval
  unfold Cell.okWide at hval
  rw [hu] at hval
  cases v <;> first | (simp [Cell.ok, hu] at hval; done) | skip
  all_goals simp_all [Cell.ok]
theorem sized {ts : List TypeId} {ds : List (DataW H)} (h : (DataW.weightsEach Try.prog ts ds).all (· ≤ reachBytes) = true) {j : Nat} {t : TypeId} (ht : ts[j]? = some t) (hd : ds[j]? = some dt) : ∀ w ∈ dt.weights Try.prog t, w ≤ 140737488355328 := fun w hw => by
  have := List.all_eq_true.1 h _ (DataW.weights_mem_each ht hd w hw)
  simp only [decide_eq_true_eq] at this
  have := reachBytes_lt
  omega
end
end Go.Ab

namespace Go.Ab
open Go Go.Proofs Go.RowKit Go.ChangeShapes
set_option maxRecDepth 100000

theorem Room.held {s : SD} (h : Room 140737488355328 s) : Held s := by
  obtain ⟨a0, a1, a2, a3, a4, a5, a6, a7, a8, a9⟩ := h
  exact ⟨by omega, by omega, by omega, by omega, by omega, by omega, by omega, by omega, by omega, by omega⟩
theorem typed_ask {B d : Nat} {vs : List V} (h : Typed Try.prog B (d + 7) 34 vs) : ∃ (p : List (List ID)) (g k : Int), vs = [.sl false 1 (p.map fC), .int .i64 g, .int .i64 k] ∧ p.length * 24 ≤ B := by
  obtain ⟨fs, hu, g0, g1, g2⟩ : ∃ fs, Try.prog.underlying 34 = some (.struct fs) ∧ (∃ f, fs[0]? = some f ∧ f.type = 23 ∧ f.offset = 0) ∧ (∃ f, fs[1]? = some f ∧ f.type = 3 ∧ f.offset = 1) ∧ (∃ f, fs[2]? = some f ∧ f.type = 3 ∧ f.offset = 2) :=
    ⟨_, Try.underlying34, ⟨_, rfl, rfl, rfl⟩, ⟨_, rfl, rfl, rfl⟩, ⟨_, rfl, rfl, rfl⟩⟩
  unfold Typed at h
  rw [hu] at h
  obtain ⟨hl, hf⟩ := h
  have hc : Try.prog.cellsOf 34 = 3 := by kernel_rfl
  have F : ∀ {i t o n : Nat}, (∃ f, fs[i]? = some f ∧ f.type = t ∧ f.offset = o) → Try.prog.cellsOf t = n → Typed Try.prog B (d + 6) t ((vs.drop o).take n) := fun ⟨f, h1, h2, h3⟩ hn => by
    subst h2 h3 hn
    refine hf f ?_
    exact List.mem_of_getElem? (by rw [Array.getElem?_toList]; exact h1)
  have q0 := F g0 (n := 1) (by kernel_rfl)
  have q1 := F g1 (n := 1) (by kernel_rfl)
  have q2 := F g2 (n := 1) (by kernel_rfl)
  rw [hc] at hl
  match vs, hl with
  | [v0, v1, v2], _ =>
    simp only [List.drop_succ_cons, List.drop_zero, List.take_succ_cons, List.take_zero] at q0 q1 q2
    obtain ⟨l0, e0, b0⟩ := typed_prog q0
    obtain ⟨n1, e1⟩ := typed_flat (d + 6) _ _ (by kernel_rfl) q1 v1 (by simp)
    obtain ⟨n2, e2⟩ := typed_flat (d + 6) _ _ (by kernel_rfl) q2 v2 (by simp)
    simp only [List.cons.injEq, and_true] at e0
    subst e0 e1 e2
    exact ⟨l0, n1, n2, rfl, b0⟩
end Go.Ab

namespace Go.Ab
open Go Go.Proofs

theorem stands_of {s : SD} (hm : mayS s = true) {g : Int} (h1 : 1 ≤ g) (h2 : g ≤ s.gs.length) : standsB s g = true := by
  rw [mayS_parts] at hm
  simp only [Bool.and_eq_true, List.all_eq_true, List.mem_range] at hm
  have := hm.2.2.2.2.2 (g - 1).toNat (by omega)
  rwa [show (((g - 1).toNat : Nat) : Int) + 1 = g by omega] at this
theorem in_of {s : SD} (hm : mayS s = true) : inB s.gs.length (runnables s) = true := by
  rw [mayS_parts] at hm
  simp only [Bool.and_eq_true] at hm
  exact hm.2.1
theorem count_of {s : SD} (hm : mayS s = true) {g : Int} (h1 : 1 ≤ g) (h2 : g ≤ s.gs.length) : timesL (runnables s) g = if (s.gs.getD (g.toNat - 1) default).st = 1 then 1 else 0 := by
  have := stands_of hm h1 h2
  unfold standsB at this
  simp only [Bool.and_eq_true, decide_eq_true_eq] at this
  exact this.1.2.1
theorem parts_of {s : SD} (hm : mayS s = true) : partsS s = true := by
  rw [mayS_parts] at hm
  simp only [Bool.and_eq_true] at hm
  exact hm.1
theorem len_of {s : SD} (hm : mayS s = true) : 1 ≤ s.gs.length ∧ s.gs.length ≤ 1000 ∧ s.ps.length = 8 ∧ 1 ≤ s.pr ∧ s.pr ≤ 8 ∧ s.ms.length ≤ 1000 := by
  have := parts_of hm
  unfold partsS at this
  simp only [Bool.and_eq_true, decide_eq_true_eq] at this
  exact this.2.1
theorem okP_of {s : SD} (hm : mayS s = true) {j : Nat} {p : PD} (h : s.ps[j]? = some p) : okP s j p = true := by
  have := parts_of hm
  unfold partsS at this
  simp only [Bool.and_eq_true] at this
  have := (allI_iff _ _ _).1 this.2.2.2.2.2.1 j p h
  rwa [Int.zero_add] at this

theorem queue_away {s : SD} (hm : mayS s = true) {j : Nat} {p : PD} (h : s.ps[j]? = some p) (hj : s.pr ≤ j) : queueOf p = [] := by
  have := okP_of hm h
  unfold okP at this
  simp only [Bool.and_eq_true, decide_eq_true_eq] at this
  obtain ⟨hr, hp⟩ := this
  unfold okPp at hp
  have h2 : p.m ≤ 0 ∧ p.nx = 0 ∧ p.r.n ≤ 0 := by omega
  unfold queueOf listR
  rw [if_pos h2.2.1, if_pos hr, show p.r.n.toNat = 0 by omega]
  rfl

theorem flat_count (l : List PD) (g : Int) : ∀ (j : Nat) (p : PD), l[j]? = some p → (queueOf p).count g ≤ (l.flatMap queueOf).count g := by
  induction l with
  | nil => intro j p h; simp at h
  | cons x l ih =>
    intro j p h
    rw [List.flatMap_cons, List.count_append]
    cases j with
    | zero => simp at h; subst h; omega
    | succ j => have := ih j p (by simpa using h); omega

theorem putsPs_mem : ∀ (l : List PD) (i g k n : Int), (g, k, n) ∈ putsPs i l → ∃ (j : Nat) (p : PD), l[j]? = some p ∧ n = i + j + 1 ∧ g ∈ queueOf p
  | [], _, _, _, _, h => by simp [putsPs] at h
  | p :: l, i, g, k, n, h => by
    simp only [putsPs, List.mem_append] at h
    rcases h with h | h
    · refine ⟨0, p, rfl, ?_, ?_⟩
      · simp only [putsP, List.mem_append, List.mem_map] at h
        rcases h with h | ⟨x, _, h⟩
        · split at h
          · simp at h
          · simp at h; simp [h.2.2]
        · cases h; simp
      · rw [← putsP_keys i p]
        exact List.mem_map.2 ⟨_, h, rfl⟩
    · obtain ⟨j, q, h1, h2, h3⟩ := putsPs_mem l (i + 1) g k n h
      exact ⟨j + 1, q, by simpa using h1, by omega, h3⟩

structure Facts (s : SD) (g : Int) (st : Int) (z : Int × Int) : Prop where
  kind : (st = 1 ∧ (z.1 = 1 ∨ z.1 = 2 ∨ z.1 = 3)) ∨ (st = 2 ∧ z.1 = 4) ∨ (st = 3 ∧ (z.1 = 5 ∨ z.1 = 6)) ∨ (st = 4 ∧ z.1 = 7) ∨ (st = 5 ∧ z.1 = 8)
  many : timesL (runnables s) g = if st = 1 then 1 else 0
  onm : z.1 = 4 ∨ z.1 = 7 → 1 ≤ z.2 ∧ z.2 ≤ s.ms.length ∧ (s.ms.getD (z.2.toNat - 1) ⟨0, 0⟩).g = g
  inq : z.1 = 1 ∨ z.1 = 2 → 1 ≤ z.2 ∧ z.2 ≤ s.pr ∧ timesL (queueOf (s.ps.getD (z.2.toNat - 1) default)) g = 1
theorem facts_of {s : SD} (hm : mayS s = true) {g : Int} (h1 : 1 ≤ g) (h2 : g ≤ s.gs.length) : Facts s g (s.gs.getD (g.toNat - 1) default).st (placeS s g) := by
  have hF := place_prog s g h1 h2 hm
  have hs := stands_of hm h1 h2
  rw [stands_iff s g h1 h2, chkL_iff] at hs
  obtain ⟨y, hy, hst, hmm⟩ := hs
  rw [hF] at hy
  simp only [List.cons.injEq, and_true] at hy
  rw [hy] at hF ⊢
  have hc := count_of hm h1 h2
  have hmem : y ∈ atL (puts s) g := by rw [hF]; simp
  obtain ⟨k, n⟩ := y
  have hl := len_of hm
  rw [← hst] at hc ⊢
  have hk : 1 ≤ k ∧ k ≤ 8 := by
    rw [places_split] at hmem
    simp only [List.mem_append, List.mem_replicate] at hmem
    rcases hmem with h | h | h | h | h | h | h | h | h
    · rw [mem_atL] at h
      have := putsPs_kind _ _ _ h
      dsimp only at this; omega
    · cases h.2; omega
    · cases h.2; omega
    · cases h.2; omega
    · cases h.2; omega
    · cases h.2; omega
    · cases h.2; omega
    · have := putsMs_kind h
      dsimp only at this; omega
    · rw [atL_Gs] at h
      split at h
      · simp at h; omega
      · simp at h
  refine ⟨?_, hc, fun e => ?_, fun e => ?_⟩
  · dsimp only
    unfold statusOf
    repeat' split
    all_goals omega
  · dsimp only at e ⊢
    obtain ⟨j, m, e1, e2, e3, e4, _⟩ := (putsMs_mem _ _ _ _ _).1 ((mem_MP e).1 hmem)
    have hj := (List.getElem?_eq_some_iff.1 e1).1
    refine ⟨by omega, by omega, ?_⟩
    rw [show n.toNat - 1 = j by omega, List.getD_eq_getElem?_getD, e1]
    exact e2
  · dsimp only at e ⊢
    have hin : (g, k, n) ∈ putsPs 0 s.ps := by
      rw [places_split] at hmem
      simp only [List.mem_append, List.mem_replicate] at hmem
      rcases hmem with h | h | h | h | h | h | h | h | h
      · exact mem_atL.1 h
      · cases h.2; omega
      · cases h.2; omega
      · cases h.2; omega
      · cases h.2; omega
      · cases h.2; omega
      · cases h.2; omega
      · have := putsMs_kind h
        dsimp only at this; omega
      · rw [atL_Gs] at h
        split at h
        · simp at h; omega
        · simp at h
    obtain ⟨j, p, q1, q2, q3⟩ := putsPs_mem _ _ _ _ _ hin
    have hjl := (List.getElem?_eq_some_iff.1 q1).1
    have hpr : ¬ s.pr ≤ j := fun q => by rw [queue_away hm q1 q] at q3; simp at q3
    refine ⟨by omega, by omega, ?_⟩
    rw [show n.toNat - 1 = j by omega, List.getD_eq_getElem?_getD, q1, Option.getD_some]
    have hst1 : statusOf k = 1 := by unfold statusOf; rw [if_pos (by omega)]
    rw [if_pos hst1] at hc
    have := flat_count s.ps g j p q1
    have h0 := List.count_pos_iff.2 q3
    unfold timesL runnables at hc
    rw [List.count_append] at hc
    unfold timesL
    omega

theorem zero_mayR : mayR (default : PD).r = true := by decide
theorem new_run (p : List (List ID)) (k : Int) : runnables (newS p k) = [1] := by
  have h : (List.replicate 8 (default : PD)).flatMap queueOf = [] := by decide +kernel
  show (List.replicate 8 (default : PD)).flatMap queueOf ++ [1] = [1]
  rw [h]; rfl
theorem new_may {p : List (List ID)} {k : Int} (hm : mayP p = true) (hk : 1 ≤ k ∧ k ≤ 8) : mayS (newS p k) = true ∧ placeS (newS p k) 1 = (3, 0) := by
  have hp : 1 ≤ p.length := by
    unfold mayP at hm
    simp only [Bool.and_eq_true, decide_eq_true_eq] at hm
    exact hm.1.1
  have hparts : partsS (newS p k) = true := by
    have hg : ([⟨0, 0, 1, 0, 0⟩] : List GD).all (okG p) = true := by
      simp only [List.all_cons, List.all_nil, Bool.and_true, okG, Bool.and_eq_true, decide_eq_true_eq]
      omega
    have hq : allI (okP (newS p k)) 0 (List.replicate 8 (default : PD)) = true := by
      rw [allI_iff]
      intro j x hx
      rw [List.getElem?_replicate] at hx
      split at hx
      · cases hx
        unfold okP okPp
        rw [zero_mayR, Bool.true_and]
        refine decide_eq_true ?_
        exact ⟨Int.le_refl 0, by decide, Int.le_refl 0, Int.natCast_nonneg _, .inl rfl, .inr ⟨rfl, rfl, Int.le_refl 0⟩⟩
      · cases hx
    show (mayP p && (decide (1 ≤ 1 ∧ 1 ≤ 1000 ∧ 8 = 8 ∧ 1 ≤ k ∧ k ≤ 8 ∧ 0 ≤ 1000) && (decide ((0 : Int) ≤ 0 ∧ (0 : Int) < 2305843009213693952) && (mayT [] [] && (([⟨0, 0, 1, 0, 0⟩] : List GD).all (okG p) && (allI (okP (newS p k)) 0 (List.replicate 8 (default : PD)) && (allI (fun i m => decide (okMp (newS p k) i m)) 0 [] &&
      (okCt 0 [] && (okCt 0 [] && (okCt 0 [] && okCt 0 [])))))))))) = true
    rw [hm, hg, hq, Bool.true_and, Bool.and_eq_true]
    exact ⟨decide_eq_true (by omega), rfl⟩
  have hmay : mayS (newS p k) = true := by
    rw [mayS_parts, hparts, new_run]
    have hst : standsB (newS p k) 1 = true := by
      unfold standsB
      rw [new_run]
      have e : (newS p k).gs.getD ((1 : Int).toNat - 1) default = ⟨0, 0, 1, 0, 0⟩ := rfl
      rw [e]
      rfl
    show (true && (inB 1 [1] && (inB 1 [] && (inB 1 [] && (inB 1 [] && (standsB (newS p k) ((0 : Nat) + 1) && true)))))) = true
    rw [show (((0 : Nat) : Int) + 1) = 1 from rfl, hst]
    decide
  refine ⟨hmay, ?_⟩
  unfold placeS
  rw [if_neg (by rw [hmay]; simp [newS])]
  show atPs 0 (List.replicate 8 (default : PD)) 1 = (3, 0)
  decide +kernel

theorem run_mem {s : SD} (hm : mayS s = true) {g : Int} (h : g ∈ s.gl) : 1 ≤ g ∧ g ≤ s.gs.length := by
  have := in_of hm
  simp only [inB, List.all_eq_true, decide_eq_true_eq] at this
  exact this g (by unfold runnables; simp [h])
theorem turned_a {s : SD} (hm : mayS s = true) {j : Nat} {g : Int} (h : s.gl[j]? = some g) : mayS { s with gl := s.gl.take j ++ s.gl.drop (j + 1) } = false := by
  rw [Bool.eq_false_iff]
  intro hm'
  obtain ⟨h1, h2⟩ := run_mem hm (List.mem_of_getElem? h)
  have c1 := count_of hm h1 h2
  have c2 := count_of hm' h1 h2
  have e : s.gl = s.gl.take j ++ g :: s.gl.drop (j + 1) := by
    obtain ⟨hj, rfl⟩ := List.getElem?_eq_some_iff.1 h
    rw [← List.drop_eq_getElem_cons hj, List.take_append_drop]
  have ec : s.gl.count g = (s.gl.take j ++ s.gl.drop (j + 1)).count g + 1 := by
    have := congrArg (List.count g) e
    simp only [List.count_append, List.count_cons_self] at this ⊢
    omega
  unfold timesL runnables at c1 c2
  rw [List.count_append] at c1 c2
  dsimp only at c2
  omega
theorem turned_b {s : SD} (hm : mayS s = true) {j : Nat} {g : Int} (h : s.gl[j]? = some g) : mayS { s with gl := s.gl ++ [g] } = false := by
  rw [Bool.eq_false_iff]
  intro hm'
  obtain ⟨h1, h2⟩ := run_mem hm (List.mem_of_getElem? h)
  have c1 := count_of hm h1 h2
  have c2 := count_of hm' h1 h2
  have ec : (s.gl ++ [g]).count g = s.gl.count g + 1 := by rw [List.count_append, List.count_singleton_self]
  unfold timesL runnables at c1 c2
  rw [List.count_append] at c1 c2
  dsimp only at c2
  omega
theorem turned_c {s : SD} {p : PD} {l : List PD} (_h : s.ps = p :: l) : mayS { s with ps := { p with m := s.ms.length + 1 } :: l } = false := by
  rw [Bool.eq_false_iff]
  intro hm'
  have := okP_of hm' (j := 0) rfl
  unfold okP at this
  simp only [Bool.and_eq_true, decide_eq_true_eq] at this
  have h2 := this.2
  unfold okPp at h2
  have h3 := h2.2.2.2.1
  dsimp only at h3
  omega

theorem sum_step (U : List Int) (x : Int) (l : List Int) : (U.map fun g => (x :: l).count g).sum = (U.map fun g => l.count g).sum + U.count x := by
  induction U with
  | nil => rfl
  | cons u U ih =>
    simp only [List.map_cons, List.sum_cons]
    have e1 : (if (x == u) = true then 1 else 0) = (if (u == x) = true then 1 else 0) := by
      by_cases h : x = u
      · simp [h]
      · have h2 : ¬ u = x := fun q => h q.symm
        simp [h, h2]
    rw [ih, show (x :: l).count u = l.count u + if (x == u) = true then 1 else 0 from List.count_cons, show (u :: U).count x = U.count x + if (u == x) = true then 1 else 0 from List.count_cons, e1]
    generalize (if (u == x) = true then 1 else 0) = c
    omega
theorem sum_counts (n : Nat) : ∀ l : List Int, (∀ x ∈ l, 1 ≤ x ∧ x ≤ (n : Int)) → l.length = ((upTo n).map fun g => l.count g).sum
  | [], _ => by
    have : ((upTo n).map fun g => ([] : List Int).count g) = (upTo n).map fun _ => 0 := by simp
    rw [this]
    generalize upTo n = U
    induction U with
    | nil => rfl
    | cons u U ih => simpa using ih
  | x :: l, h => by
    rw [sum_step, ← sum_counts n l (fun y hy => h y (by simp [hy]))]
    have h1 : (upTo n).count x = 1 := by
      have hx := upTo_mem.2 (h x (by simp))
      have := List.count_pos_iff.2 hx
      have := List.nodup_iff_count.1 (upTo_nodup n) x
      omega
    rw [h1]; rfl
theorem sum_st (l : List GD) : (l.map fun x => if x.st = 1 then 1 else 0).sum = l.countP fun x => decide (x.st = 1) := by
  induction l with
  | nil => rfl
  | cons x l ih =>
    simp only [List.map_cons, List.sum_cons, ih, List.countP_cons]
    by_cases h : x.st = 1 <;> simp [h]; omega
theorem run_many {s : SD} (hm : mayS s = true) : (runnables s).length = s.gs.countP fun x => decide (x.st = 1) := by
  have hin := in_of hm
  simp only [inB, List.all_eq_true, decide_eq_true_eq] at hin
  rw [sum_counts s.gs.length (runnables s) hin, ← sum_st]
  congr 1
  refine List.ext_getElem (by simp [upTo]) fun j h1 h2 => ?_
  simp only [List.length_map] at h2
  simp only [List.getElem_map, upTo, List.getElem_range]
  have := count_of hm (g := (j : Int) + 1) (by omega) (by omega)
  rw [show ((j : Int) + 1).toNat - 1 = j by omega, List.getD_eq_getElem?_getD, List.getElem?_eq_getElem h2, Option.getD_some] at this
  unfold timesL at this
  split at this <;> rename_i hst
  · rw [if_pos hst]; omega
  · rw [if_neg hst]; omega
theorem queues_there {s : SD} (hm : mayS s = true) : (s.ps.flatMap queueOf).length = ((s.ps.take s.pr.toNat).flatMap queueOf).length := by
  conv => lhs; rw [← List.take_append_drop s.pr.toNat s.ps, List.flatMap_append, List.length_append]
  have : (s.ps.drop s.pr.toNat).flatMap queueOf = [] := by
    rw [List.flatMap_eq_nil_iff]
    intro p hp
    obtain ⟨j, hj⟩ := List.getElem?_of_mem hp
    rw [List.getElem?_drop] at hj
    have := len_of hm
    exact queue_away hm hj (by omega)
  rw [this]; simp
end Go.Ab
