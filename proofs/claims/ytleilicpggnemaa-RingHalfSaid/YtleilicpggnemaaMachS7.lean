/-
  Each operation of the abstract machine is what the model's operation does: stores, literals of structs, own slices that become objects, appends.
-/
import Derived.Test.YtleilicpggnemaaMachS6
namespace Go.Ab
open Go

variable {E : Ent} {n : Sz} {C : Ctx} {st : St} {a : Act} {P : Program}

/-! ### Cells in place of cells -/

theorem setR_spec {cs vs : List V} {off : Nat} (h : off + vs.length ≤ cs.length) :
    (setR cs off vs).length = cs.length ∧ ∀ j, (setR cs off vs)[j]? = if off ≤ j ∧ j < off + vs.length then vs[j - off]? else cs[j]? := by
  have gen : ∀ vs : List V, off + vs.length ≤ cs.length → (cs.take off ++ vs ++ cs.drop (off + vs.length)).length = cs.length ∧ ∀ j, (cs.take off ++ vs ++ cs.drop (off + vs.length))[j]? = if off ≤ j ∧ j < off + vs.length then vs[j - off]? else cs[j]? := by
    intro vs h
    refine ⟨by simp; omega, fun j => ?_⟩
    have hl : (cs.take off).length = off := by simp; omega
    by_cases h1 : j < off
    · rw [if_neg (by omega), List.append_assoc, List.getElem?_append_left (by omega), List.getElem?_take, if_pos h1]
    · by_cases h2 : j < off + vs.length
      · rw [if_pos ⟨by omega, h2⟩, List.append_assoc, List.getElem?_append_right (by omega), hl, List.getElem?_append_left (by omega)]
      · rw [if_neg (by omega), List.append_assoc, List.getElem?_append_right (by omega), hl, List.getElem?_append_right (by omega), List.getElem?_drop]
        congr 1; omega
  unfold setR
  split
  · rename_i v
    simp only [List.length_singleton] at h
    refine ⟨by simp, fun j => ?_⟩
    simp only [List.length_singleton, List.getElem?_set]
    by_cases e : off = j
    · subst e; rw [if_pos rfl, if_pos (by omega), if_pos (by omega)]; simp
    · rw [if_neg e, if_neg (by omega)]
  · exact gen vs h

/-- Cells of memory that read as cs. -/
def CellsR (C : Ctx) (cs : List V) (f : Nat → Option Value) : Prop :=
  ∀ (j : Nat) (c : V), cs[j]? = some c → ∃ u, f j = some u ∧ u.oneCell' = true ∧ R C c u

theorem CellsR.setR {cs vs : List V} {f g : Nat → Option Value} {off : Nat} (h : CellsR C cs f) (hv : CellsR C vs g) (hl : off + vs.length ≤ cs.length) :
    CellsR C (setR cs off vs) (fun j => if off ≤ j ∧ j < off + vs.length then g (j - off) else f j) := by
  intro j c hj
  rw [(setR_spec hl).2] at hj
  by_cases e : off ≤ j ∧ j < off + vs.length
  · rw [if_pos e] at hj
    simp only [e, and_self, if_true]
    exact hv _ c hj
  · rw [if_neg e] at hj
    simp only [e, if_false]
    exact h j c hj

theorem cellsR_val {v : V} {u : Value} (h : R C v u) (hv : v.val = true) : CellsR C v.cells (fun j => u.cells[j]?) := by
  intro j c hj
  obtain ⟨a1, a2, a3⟩ := (R_cells h hv).2 j c hj
  exact ⟨_, a1, a2, a3⟩

/-! ### build -/

theorem run_mapMList {α β : Type} (f : α → Sem β) (g : α → β) (w : World) : ∀ (l : List α), (∀ x ∈ l, (f x).run P w = .ok (g x) w) → (l.mapM f).run P w = .ok (l.map g) w
  | [], _ => by simp
  | x :: l, h => by
    have h1 := h x (by simp)
    have h2 := run_mapMList f g w l (fun y hy => h y (by simp [hy]))
    simp [List.mapM_cons, h1, h2]

theorem run_mapMArray {α β : Type} (f : α → Sem β) (g : α → β) (w : World) (l : Array α) (h : ∀ x ∈ l.toList, (f x).run P w = .ok (g x) w) : (l.mapM f).run P w = .ok (l.map g) w := by
  rw [Array.mapM_eq_mapM_toList]
  simp only [Sem.run_map, run_mapMList f g w l.toList h, Result.andThen_ok]
  congr 1
  apply Array.ext'
  simp

/-- Parts go in. -/
theorem fill_R (hinv : Inv E n C st a) (place : Nat → Option (Nat × Nat)) : ∀ (parts : List (Nat × Nat × X)) (ps : List (Nat × Operand)) (cs : List V) (arr : Array Value),
    (∀ (j : Nat) (p : Nat × Nat × X) (q : Nat × Operand), parts[j]? = some p → ps[j]? = some q → place q.1 = some (p.1, p.2.1) ∧ okX p.2.2 q.2 = true) → parts.length = ps.length →
    (∀ p ∈ parts, (p.2.2.ev st).val = true ∧ (p.2.2.ev st).cells.length = p.2.1 ∧ p.1 + p.2.1 ≤ cs.length) →
    cs.length = arr.size → CellsR C cs (fun j => arr[j]?) →
    ∃ r, Instr.fill place arr (ps.map fun q => (q.1, a.eval q.2)) = some r ∧ r.size = arr.size ∧ (parts.foldl (fun cs p => setR cs p.1 (p.2.2.ev st).cells) cs).length = cs.length ∧
      CellsR C (parts.foldl (fun cs p => setR cs p.1 (p.2.2.ev st).cells) cs) (fun j => r[j]?)
  | [], ps, cs, arr, _, hl, _, _, hc => by
    have : ps = [] := List.eq_nil_of_length_eq_zero (by simpa using hl.symm)
    subst this
    exact ⟨arr, rfl, rfl, rfl, hc⟩
  | p :: parts, [], _, _, _, hl, _, _, _ => by simp at hl
  | p :: parts, q :: ps, cs, arr, hp, hl, hv, hs, hc => by
    obtain ⟨h1, h2⟩ := hp 0 p q rfl rfl
    obtain ⟨v1, v2, v3⟩ := hv p (by simp)
    have hR := hinv.ev h2
    obtain ⟨c1, c2⟩ := R_cells hR v1
    have hsz : (a.eval q.2).cells.size = p.2.1 := by rw [← c1]; exact v2
    obtain ⟨g1, g2⟩ := Great.foldl_set p.1 (a.eval q.2).cells.toList 0 arr
    have hle : p.1 + (p.2.2.ev st).cells.length ≤ cs.length := by rw [v2]; exact v3
    have hset := setR_spec hle
    have hc' : CellsR C (setR cs p.1 (p.2.2.ev st).cells) (fun j => (((a.eval q.2).cells.toList.zipIdx 0).foldl (fun cs (x : Value × Nat) => cs.setIfInBounds (p.1 + x.2) x.1) arr)[j]?) := by
      intro j c hj
      have := (hc.setR (cellsR_val hR v1) hle) j c hj
      obtain ⟨u, hu, r⟩ := this
      refine ⟨u, ?_, r⟩
      simp only
      rw [g2 j]
      simp only [Nat.add_zero, Array.length_toList, hsz]
      rw [v2] at hu
      by_cases e : p.1 ≤ j ∧ j < p.1 + p.2.1
      · rw [if_pos ⟨e.1, e.2, by omega⟩]
        simp only [e, and_self, if_true] at hu
        rw [Array.getElem?_toList]
        exact hu
      · rw [if_neg (by omega)]
        simp only [e, if_false] at hu
        exact hu
    obtain ⟨r, e1, e2, e3, e4⟩ := fill_R hinv place parts ps (setR cs p.1 (p.2.2.ev st).cells) _ (fun j p' q' h h' => hp (j + 1) p' q' (by simpa using h) (by simpa using h')) (by simpa using hl)
      (fun p' hp' => by rw [hset.1]; exact hv p' (by simp [hp'])) (by rw [hset.1, g1]; exact hs) hc'
    refine ⟨r, ?_, e2.trans g1, by simp only [List.foldl_cons]; rw [e3, hset.1], e4⟩
    simp only [List.map_cons]
    unfold Instr.fill
    simp only [h1, hsz]
    rw [if_neg (by simp; omega), ← e1]
    congr 1
    rw [← Array.foldl_toList, Array.toList_zipIdx]

theorem okParts_spec {fs : Array Field} : ∀ {l : List (Nat × Nat × X)} {m : List (Nat × Operand)}, okParts fs P l m = true →
    l.length = m.length ∧ ∀ (j : Nat) (p : Nat × Nat × X) (q : Nat × Operand), l[j]? = some p → m[j]? = some q → (∃ f i, fs[q.1]? = some f ∧ f.offset = p.1 ∧ P.info? f.type = some i ∧ i.size = p.2.1) ∧ okX p.2.2 q.2 = true
  | [], [], _ => ⟨rfl, fun j p q h => by simp at h⟩
  | [], _ :: _, h => by simp [okParts] at h
  | _ :: _, [], h => by simp [okParts] at h
  | (off, n, x) :: l, (i, y) :: m, h => by
    simp only [okParts, Bool.and_eq_true] at h
    obtain ⟨⟨h1, h2⟩, h3⟩ := h
    obtain ⟨e1, e2⟩ := okParts_spec h3
    refine ⟨by simp [e1], fun j p q hp hq => ?_⟩
    cases j with
    | zero =>
      simp only [List.getElem?_cons_zero, Option.some.injEq] at hp hq
      subst hp hq
      split at h1
      · rename_i f hf
        simp only [Bool.and_eq_true, beq_iff_eq] at h1
        obtain ⟨ii, hi, hs⟩ := szOk_spec h1.2
        exact ⟨⟨f, ii, hf, h1.1, hi, hs⟩, h2⟩
      · cases h1
    | succ j => exact e2 j p q (by simpa using hp) (by simpa using hq)

theorem okPartsA_spec {s len : Nat} : ∀ {l : List (Nat × Nat × X)} {m : List (Nat × Operand)}, okPartsA s len l m = true →
    l.length = m.length ∧ ∀ (j : Nat) (p : Nat × Nat × X) (q : Nat × Operand), l[j]? = some p → m[j]? = some q → q.1 * s = p.1 ∧ p.2.1 = s ∧ okX p.2.2 q.2 = true
  | [], [], _ => ⟨rfl, fun j p q h => by simp at h⟩
  | [], _ :: _, h => by simp [okPartsA] at h
  | _ :: _, [], h => by simp [okPartsA] at h
  | (off, n, x) :: l, (i, y) :: m, h => by
    simp only [okPartsA, Bool.and_eq_true, beq_iff_eq] at h
    obtain ⟨⟨⟨⟨h0, h1⟩, h2⟩, h3⟩, h4⟩ := h
    obtain ⟨e1, e2⟩ := okPartsA_spec h4
    refine ⟨by simp [e1], fun j p q hp hq => ?_⟩
    cases j with
    | zero =>
      simp only [List.getElem?_cons_zero, Option.some.injEq] at hp hq
      subst hp hq
      exact ⟨h1.symm, h2, h3⟩
    | succ j => exact e2 j p q (by simpa using hp) (by simpa using hq)

theorem okOp_build {z : List V} {parts : List (Nat × Nat × X)} {op : Op} (h : okOp P (.build z parts) op = true) :
    ∃ t ps i v, op = .build t ps ∧ P.info? t = some i ∧ i.zero = some v ∧ zOk z v.cells.toList = true ∧ (∀ u ∈ v.cells.toList, u.oneCell' = true) ∧ (∀ p ∈ parts, p.1 + p.2.1 ≤ z.length) ∧
      ((∃ fs, P.underlying t = some (.struct fs) ∧ okParts fs P parts ps.toList = true ∧ ∀ f ∈ fs.toList, (P.info? f.type).isSome = true) ∨
       (∃ len e ie, P.underlying t = some (.array len e) ∧ P.info? e = some ie ∧ okPartsA ie.size len parts ps.toList = true)) := by
  cases op with
  | build t ps =>
    simp only [okOp, Bool.and_eq_true] at h
    obtain ⟨⟨h1, h2⟩, h3⟩ := h
    obtain ⟨i, v, hi, hv, hf⟩ := zeroIs_spec h1
    simp only [Bool.and_eq_true] at hf
    refine ⟨t, ps, i, v, rfl, hi, hv, hf.1, fun u hu => Array.all_eq_true_iff_forall_mem.1 hf.2 u (by simpa using hu), fun p hp => by simpa using List.all_eq_true.1 h2 p hp, ?_⟩
    split at h3
    · rename_i fs hu
      simp only [Bool.and_eq_true] at h3
      exact .inl ⟨fs, hu, h3.1, fun f hf => Array.all_eq_true_iff_forall_mem.1 h3.2 f (by simpa using hf)⟩
    · rename_i len e hu
      cases hie : P.info? e with
      | none => simp [hie] at h3
      | some ie => simp only [hie, Option.any_some] at h3; exact .inr ⟨len, e, ie, hu, hie, h3⟩
    · cases h3
  | _ => simp [okOp] at h

theorem snd_build {z : List V} {parts : List (Nat × Nat × X)} : Snd P (.build z parts) := by
  intro E n C st a o d K next Q hinv hok hd h hn
  obtain ⟨t, ps, i, v, hop, hi, hz, hzo, hz1, hle, hkind⟩ := okOp_build hok
  obtain ⟨zl, zr⟩ := zOk_R hzo
  simp only [eff] at h
  obtain ⟨hall, hK⟩ := h
  have hall' : ∀ p ∈ parts, (p.2.2.ev st).val = true ∧ (p.2.2.ev st).cells.length = p.2.1 ∧ p.1 + p.2.1 ≤ z.length := by
    intro p hp
    have := List.all_eq_true.1 hall p hp
    simp only [Bool.and_eq_true, beq_iff_eq] at this
    exact ⟨this.1, this.2, hle p hp⟩
  have hz0 : CellsR C z (fun j => v.cells[j]?) := by
    intro j c hj
    obtain ⟨u, hu, hr⟩ := zr j c hj
    exact ⟨u, by dsimp only; rw [← Array.getElem?_toList]; exact hu, hz1 u (List.mem_of_getElem? hu), hr C⟩
  have hzl : z.length = v.cells.size := by simpa using zl
  have fin : ∀ place : Nat → Option (Nat × Nat), (∀ (j : Nat) (p : Nat × Nat × X) (q : Nat × Operand), parts[j]? = some p → ps.toList[j]? = some q → place q.1 = some (p.1, p.2.1) ∧ okX p.2.2 q.2 = true) → parts.length = ps.toList.length →
      (∀ r, Instr.fill place v.cells (ps.toList.map fun q => (q.1, a.eval q.2)) = some r → (execOp a.eval o).run P C.w = .ok (.value (.agg r)) C.w) → o.wp P a C.w next Q := by
    intro place hp hl hrun
    obtain ⟨r, e1, e2, e3, e4⟩ := fill_R hinv place parts ps.toList z v.cells hp hl hall' hzl hz0
    refine wp_value (hrun r e1) (hn C _ _ (hinv.put hd ?_) hK)
    have hlen : (parts.foldl (fun cs p => setR cs p.1 (p.2.2.ev st).cells) z).length = r.toList.length := by rw [e3, hzl, ← e2]; simp
    have : R C (.agg (parts.foldl (fun cs p => setR cs p.1 (p.2.2.ev st).cells) z)) (.agg r.toList.toArray) := by
      refine .agg _ _ hlen (fun u hu => ?_) fun j c hj => ?_
      · obtain ⟨j, hj⟩ := List.getElem?_of_mem hu
        have hlt : j < (parts.foldl (fun cs p => setR cs p.1 (p.2.2.ev st).cells) z).length := by rw [hlen]; exact (List.getElem?_eq_some_iff.1 hj).1
        obtain ⟨u', h1, h2, _⟩ := e4 j _ (List.getElem?_eq_getElem hlt)
        rw [Array.getElem?_toList] at hj
        dsimp only at h1
        rw [hj] at h1; cases h1; exact h2
      · obtain ⟨u', h1, _, h3⟩ := e4 j c hj
        have : r.toList.getD j undef = u' := by simp [List.getD, h1]
        rw [this]; exact h3
    simpa using this
  rcases hkind with ⟨fs, hu, hp, hfs⟩ | ⟨len, e, ie, hu, hie, hp⟩
  · obtain ⟨p1, p2⟩ := okParts_spec hp
    refine fin (fun k => (fs.map fun f => (f.offset, P.cellsOf f.type))[k]?) (fun j p q h1 h2 => ?_) p1 fun r hr => ?_
    · obtain ⟨⟨f, ii, q1, q2, q3, q4⟩, q5⟩ := p2 j p q h1 h2
      exact ⟨by simp [q1, q2, Program.cellsOf, q3, q4], q5⟩
    · have hm := run_mapMArray (P := P) (fun f : Field => (do pure (f.offset, ← sizeOf f.type) : Sem (Nat × Nat))) (fun f => (f.offset, P.cellsOf f.type)) C.w fs (fun f hf => by
        obtain ⟨ii, hii⟩ := Option.isSome_iff_exists.1 (hfs f hf)
        simp [sizeOf, typeInfo, hii, Program.cellsOf])
      have hr' : Instr.fill (fun k => (fs.map fun f => (f.offset, P.cellsOf f.type))[k]?) v.cells (ps.map fun q => (q.1, a.eval q.2)).toList = some r := by rw [Array.toList_map]; exact hr
      simp only [execOp, hop, Sem.run_bind, Instr.build, zeroValue, typeInfo, run_program, hi, hz, Result.andThen_ok, Sem.run_pure, run_underlying hu, hm]
      rw [hr']
      rfl
  · obtain ⟨p1, p2⟩ := okPartsA_spec hp
    refine fin (fun k => some (k * ie.size, ie.size)) (fun j p q h1 h2 => ?_) p1 fun r hr => ?_
    · obtain ⟨q1, q2, q3⟩ := p2 j p q h1 h2
      exact ⟨by simp [q1, q2], q3⟩
    · have hr' : Instr.fill (fun k => some (k * ie.size, ie.size)) v.cells (ps.map fun q => (q.1, a.eval q.2)).toList = some r := by rw [Array.toList_map]; exact hr
      simp only [execOp, hop, Sem.run_bind, Instr.build, zeroValue, typeInfo, run_program, hi, hz, Result.andThen_ok, Sem.run_pure, run_underlying hu, sizeOf, hie]
      rw [hr']
      rfl

end Go.Ab
