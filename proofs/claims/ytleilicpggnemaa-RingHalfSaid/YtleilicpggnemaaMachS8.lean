/-
  Each operation of the abstract machine is what the model's operation does: stores.
-/
import Derived.Test.YtleilicpggnemaaMachS7
namespace Go.Ab
open Go

variable {E : Ent} {n : Sz} {C : Ctx} {st : St} {a : Act} {P : Program}

theorem setRow_ext_ne {w : World} {g b : Nat} {cur : Array Value} (h : b ≠ g) : (w.setRow g cur).heap[b]? = w.heap[b]? := setRow_other w g b cur h

theorem size_setRow (w : World) (g : Nat) (cur : Array Value) : (w.setRow g cur).heap.size = w.heap.size := by simp [World.setRow]

/-- Cells of a local object are written. -/
theorem Inv.write (h : Inv E n C st a) {r : Nat} {L : Loc} {cur cur' : Array Value} {e : TypeId} {o' : AO} (hl : C.loc r = some L) (ha : (C.heap r).isDead = false)
    (hb : C.w.heap[L.blk]? = some (.cells cur e (0, 0))) (hs : cur'.size = cur.size)
    (hD : ∀ off, cur'[off]? ≠ cur[off]? → ¬ C.F L.blk off ∧ (E.w0.heap.size ≤ L.blk ∨ E.Wr L.blk off))
    (hkind : (∃ cs cs', C.heap r = .box cs ∧ o' = .box cs') ∨ (∃ s rs rs', C.heap r = .rows s rs ∧ o' = .rows s rs' ∧ rs'.length = rs.length))
    (hok : Le C { C with w := C.w.setRow L.blk cur', heap := upd C.heap r o' } → ObjOk E { C with w := C.w.setRow L.blk cur', heap := upd C.heap r o' } r) :
    Inv E n { C with w := C.w.setRow L.blk cur', heap := upd C.heap r o' } (st.set r o') a := by
  have hblk : (C.w.setRow L.blk cur').heap[L.blk]? = some (.cells cur' e (0, 0)) := setRow_heap C.w L.blk cur cur' e _ hb
  have hle : Le C { C with w := C.w.setRow L.blk cur', heap := upd C.heap r o' } := by
    refine ⟨fun b off hf => ⟨hf, ?_⟩, fun _ h => h, fun r' cs _ h' => ?_, fun r' s rs _ h' => ?_⟩
    · by_cases hbb : b = L.blk
      · subst hbb
        have e1 : cur'[off]? = cur[off]? := by
          by_cases hh : cur'[off]? = cur[off]?
          · exact hh
          · exact absurd hf (hD off hh).1
        simp only
        rw [cell_of_row _ _ _ _ _ _ hblk, cell_of_row _ _ _ _ _ _ hb, e1]
      · exact World.cell?_of_block (a := ⟨b, off, none⟩) (setRow_ext_ne hbb)
    · by_cases hrr : r' = r
      · subst hrr
        rcases hkind with ⟨c1, c2, k1, k2⟩ | ⟨s, c1, c2, k1, k2, k3⟩
        · subst k2; exact ⟨⟨c2, by simp [upd]⟩, rfl⟩
        · rw [k1] at h'; cases h'
      · exact ⟨⟨cs, by simp [upd, hrr, h']⟩, rfl⟩
    · by_cases hrr : r' = r
      · subst hrr
        rcases hkind with ⟨c1, c2, k1, k2⟩ | ⟨s', c1, c2, k1, k2, k3⟩
        · rw [k1] at h'; cases h'
        · rw [k1] at h'; cases h'
          subst k2
          exact ⟨⟨c2, by simp [upd], k3⟩, rfl⟩
      · exact ⟨⟨rs, by simp [upd, hrr, h'], rfl⟩, rfl⟩
  have hdead : ∀ r', (upd C.heap r o' r').isDead = false → (C.heap r').isDead = false := by
    intro r' hd
    by_cases hrr : r' = r
    · subst hrr; exact ha
    · simpa [upd, hrr] using hd
  exact { heap := by simp [St.set, h.heap]
          env := fun t => (h.env t).mono hle
          objs := fun r' => by
            by_cases hrr : r' = r
            · subst hrr; exact hok hle
            · refine (h.objs r').mono hle (by simp [upd, hrr]) rfl fun L' hl' ha' => ⟨?_, fun _ h => h, fun h => h⟩
              exact setRow_ext_ne fun ee => hrr (h.inj r' r L' L hl' hl ha' ha ee)
          inj := fun r1 r2 L1 L2 h1 h2 d1 d2 hb => h.inj r1 r2 L1 L2 h1 h2 (hdead r1 d1) (hdead r2 d2) hb
          fin := fun b off hf => by simp only; rw [size_setRow]; exact h.fin b off hf
          gnew := h.gnew, gsub := h.gsub, par := h.par, fnew := h.fnew
          frame := ⟨h.frame.os, h.frame.output, h.frame.tape, by simp only; rw [size_setRow]; exact h.frame.size, fun b hlt => by
            have hsame := h.frame.same b hlt
            by_cases hbb : b = L.blk
            · subst hbb
              simp only
              rw [hblk]
              rw [hb] at hsame
              cases ho : E.w0.heap[L.blk]? with
              | none => rw [ho] at hsame; simp [sameBut] at hsame
              | some o =>
                rw [ho] at hsame
                cases o with
                | cells c e1 fr =>
                  simp only [sameBut] at hsame ⊢
                  obtain ⟨s1, s2, s3, s4⟩ := hsame
                  refine ⟨s1, s2, hs.trans s3, fun off hw => ?_⟩
                  have : cur'[off]? = cur[off]? := by
                    by_cases hh : cur'[off]? = cur[off]?
                    · exact hh
                    · rcases (hD off hh).2 with h1 | h1
                      · omega
                      · exact absurd h1 hw
                  rw [this]; exact s4 off hw
                | _ => simp [sameBut] at hsame
            · simp only
              rw [setRow_ext_ne hbb]; exact hsame⟩
          defers := h.defers, size := h.size }

/-- The block behind a store. -/
theorem run_storeAt {t k b o : Nat} {u : Value} {cur : Array Value} {e : TypeId} (hs : szOk P t k = true) (hk : u.cells.size = k) (h1 : ∀ v ∈ u.cells.toList, v.oneCell' = true) (w : World)
    (hb : w.heap[b]? = some (.cells cur e (0, 0))) (hfit : o + k ≤ cur.size) :
    (Instr.storeAt t (.pointer (some ⟨b, o, none⟩)) u).run P w = .ok () (w.setRow b (cur.toList.take o ++ u.cells.toList ++ cur.toList.drop (o + k)).toArray) := by
  obtain ⟨i, hi, hsz⟩ := szOk_spec hs
  have := run_storeCells_at P b o e u.cells.toList 0 cur w hb (by simpa [hk] using hfit) h1
  simp only [Nat.add_zero, Array.length_toList, hk] at this
  simp [Instr.storeAt, Instr.sureAddr, storeVar, sizeOf, typeInfo, hi, hsz, hk, this]

theorem splice_get {cur : Array Value} {vs : List Value} {o k : Nat} (hk : vs.length = k) (hfit : o + k ≤ cur.size) :
    (cur.toList.take o ++ vs ++ cur.toList.drop (o + k)).toArray.size = cur.size ∧ ∀ j, (cur.toList.take o ++ vs ++ cur.toList.drop (o + k)).toArray[j]? = if o ≤ j ∧ j < o + k then vs[j - o]? else cur[j]? := by
  refine ⟨by simp; omega, fun j => ?_⟩
  have hl : (cur.toList.take o).length = o := by simp; omega
  rw [List.getElem?_toArray]
  by_cases h1 : j < o
  · rw [if_neg (by omega), List.append_assoc, List.getElem?_append_left (by omega), List.getElem?_take, if_pos h1, Array.getElem?_toList]
  · by_cases h2 : j < o + k
    · rw [if_pos ⟨by omega, h2⟩, List.append_assoc, List.getElem?_append_right (by omega), hl, List.getElem?_append_left (by omega)]
    · rw [if_neg (by omega), List.append_assoc, List.getElem?_append_right (by omega), hl, List.getElem?_append_right (by omega), List.getElem?_drop, Array.getElem?_toList]
      congr 1; omega

theorem okOp_store {k : Nat} {x v : X} {op : Op} (h : okOp P (.store k x v) op = true) : ∃ t y u, op = .store t y u ∧ szOk P t k = true ∧ 0 < k ∧ okX x y = true ∧ okX v u = true := by
  cases op with
  | store t y u =>
    simp only [okOp, Bool.and_eq_true, decide_eq_true_eq] at h
    exact ⟨t, y, u, rfl, h.1.1.1, h.1.1.2, h.1.2, h.2⟩
  | _ => simp [okOp] at h

theorem R_cells_one {v : V} {u : Value} (h : R C v u) (hv : v.val = true) : ∀ w ∈ u.cells.toList, w.oneCell' = true := by
  intro w hw
  obtain ⟨c1, c2⟩ := R_cells h hv
  obtain ⟨j, hj⟩ := List.getElem?_of_mem hw
  have hlt : j < v.cells.length := by rw [c1]; have := (List.getElem?_eq_some_iff.1 hj).1; simpa using this
  obtain ⟨_, a2, _⟩ := c2 j _ (List.getElem?_eq_getElem hlt)
  rw [Array.getElem?_toList] at hj
  have e : u.cells.getD j undef = w := by simp [Array.getD_eq_getD_getElem?, hj]
  rw [e] at a2; exact a2

theorem cells_of {cur : Array Value} {f : Nat → Nat} {cs : List V} (h : CellsR C cs (fun j => cur[f j]?)) :
    ∀ (j : Nat) (c : V), cs[j]? = some c → cur[f j]? = some (cur.getD (f j) undef) ∧ (cur.getD (f j) undef).oneCell' = true ∧ R C c (cur.getD (f j) undef) := by
  intro j c hj
  obtain ⟨u, h1, h2, h3⟩ := h j c hj
  dsimp only at h1
  have e : cur.getD (f j) undef = u := by simp [Array.getD_eq_getD_getElem?, h1]
  rw [e]
  exact ⟨h1, h2, h3⟩

theorem CellsR.mono {C' : Ctx} (hc : Le C C') {cs : List V} {f : Nat → Option Value} (h : CellsR C cs f) : CellsR C' cs f :=
  fun j c hj => let ⟨u, h1, h2, h3⟩ := h j c hj; ⟨u, h1, h2, h3.mono hc⟩

theorem at2_set {rs : List (List V)} {i i' j : Nat} {row : List V} {c : V} (h : at2 (rs.set i row) i' j = some c) : (i' = i ∧ i < rs.length ∧ row[j]? = some c) ∨ (i' ≠ i ∧ at2 rs i' j = some c) := by
  obtain ⟨h0, h2⟩ := at2_lt h
  have h1 : i' < rs.length := by simpa using h0
  by_cases e : i' = i
  · subst e
    simp only [List.getElem_set_self] at h2
    exact .inl ⟨rfl, h1, h2⟩
  · rw [List.getElem_set_ne (fun h => e h.symm)] at h2
    exact .inr ⟨e, by unfold at2; rw [List.getElem?_eq_getElem h1]; exact h2⟩

theorem row_apart {i i' j s off k : Nat} (hne : i' ≠ i) (hj : j < s) (hk : off + k ≤ s) : ¬ (i * s + off ≤ i' * s + j ∧ i' * s + j < i * s + off + k) := by
  rintro ⟨h1, h2⟩
  rcases Nat.lt_or_gt_of_ne hne with h | h
  · have : i' * s + s ≤ i * s := by rw [← Nat.succ_mul]; exact Nat.mul_le_mul_right _ h
    omega
  · have : i * s + s ≤ i' * s := by rw [← Nat.succ_mul]; exact Nat.mul_le_mul_right _ h
    omega

theorem snd_store {k : Nat} {x v : X} : Snd P (.store k x v) := by
  intro E n C st a o d K next Q hinv hok hd h hn
  obtain ⟨t, y, u, hop, hsz, hk0, hx, hv⟩ := okOp_store hok
  have hX := hinv.ev hx
  have hV := hinv.ev hv
  simp only [eff] at h
  obtain ⟨hval, hlen, h⟩ := h
  have hcv := cellsR_val hV hval
  have huk : (a.eval u).cells.size = k := by rw [← (R_cells hV hval).1]; exact hlen
  have hu1 := R_cells_one hV hval
  split at h
  · rename_i r off ex
    rw [ex] at hX
    split at h
    · rename_i cs hh
      rw [← hinv.heap] at hh
      obtain ⟨hoff, hK⟩ := h
      generalize hev : a.eval y = p at hX
      cases hX with
      | ptr _ _ cs' L g1 g2 =>
        rw [hh] at g1; cases g1
        have ho := hinv.objs r
        unfold ObjOk at ho
        rw [hh] at ho
        obtain ⟨L', hl', ⟨cur, e, g, hb, hc⟩, hw, hFG⟩ := ho
        rw [g2] at hl'; cases hl'
        have hfit : L.base + off + k ≤ cur.size := by
          obtain ⟨q1, _, _⟩ := hc (cs.length - 1) _ (List.getElem?_eq_getElem (by omega))
          have := (Array.getElem?_eq_some_iff.1 q1).1
          omega
        obtain ⟨sp1, sp2⟩ := splice_get (vs := (a.eval u).cells.toList) (by simpa using huk) hfit
        have hrun := run_storeAt hsz huk hu1 C.w hb hfit
        generalize (cur.toList.take (L.base + off) ++ (a.eval u).cells.toList ++ cur.toList.drop (L.base + off + k)).toArray = cur' at sp1 sp2 hrun
        have hlen' : off + (v.ev st).cells.length ≤ cs.length := by rw [hlen]; exact hoff
        have hset := setR_spec hlen'
        have hI := hinv.write (o' := .box (setR cs off (v.ev st).cells)) g2 (by rw [hh]; rfl) hb sp1 (fun j hj => by
            rw [sp2] at hj
            split at hj
            · rename_i hin
              have := hw (j - L.base) (by omega)
              rw [show L.base + (j - L.base) = j by omega] at this
              exact this
            · exact absurd rfl hj) (.inl ⟨cs, _, hh, rfl⟩) (fun hle => by
            unfold ObjOk
            simp only [upd, if_true]
            refine ⟨L, g2, ⟨cur', e, fun j => cur'.getD (L.base + j) undef, setRow_heap _ _ _ _ _ _ hb, cells_of (f := fun j => L.base + j) ?_⟩, fun j hj => hw j (by rw [← hset.1]; exact hj), hFG⟩
            have h0 : CellsR C cs (fun j => cur[L.base + j]?) := fun j c hj => ⟨_, (hc j c hj).1, (hc j c hj).2⟩
            intro j c hj
            obtain ⟨w, e1, e2, e3⟩ := (h0.setR hcv hlen') j c hj
            refine ⟨w, ?_, e2, e3.mono hle⟩
            dsimp only
            rw [sp2, ← e1, hlen]
            dsimp only
            by_cases hin : off ≤ j ∧ j < off + k
            · rw [if_pos hin, if_pos (by omega), Array.getElem?_toList]
              congr 1; omega
            · rw [if_neg hin, if_neg (by omega)])
        exact wp_skip' (w' := C.w.setRow L.blk cur') (by simp [execOp, hop, hev, hrun]) (hn _ _ _ (hI.put hd (.undef _)) hK)
    · exact h.elim
  · rename_i r i off ex
    rw [ex] at hX
    split at h
    · rename_i s rs hh
      rw [← hinv.heap] at hh
      obtain ⟨hcl, hoff, hK⟩ := h
      generalize hev : a.eval y = p at hX
      cases hX with
      | rptr _ _ _ s' rs' L g1 g2 g3 =>
        rw [hh] at g1; cases g1
        have ho := hinv.objs r
        unfold ObjOk at ho
        rw [hh] at ho
        rcases ho with ⟨_, ho⟩ | ⟨L', hl', q0, q1, q2, q3, ⟨cur, e, g, hb, hcs, hc⟩, hw, hG⟩
        · rw [g2] at ho; cases ho
        rw [g2] at hl'; cases hl'
        have hrow : (rs.getD i []).length = s := by
          have : rs.getD i [] = rs[i] := by simp [g3]
          rw [this]; exact q3 _ (List.getElem_mem g3)
        have hile : i * s + s ≤ L.cap * s := by rw [← Nat.succ_mul]; exact Nat.mul_le_mul_right _ (by omega)
        have hfit : i * s + off + k ≤ cur.size := by omega
        obtain ⟨sp1, sp2⟩ := splice_get (vs := (a.eval u).cells.toList) (by simpa using huk) hfit
        have hrun := run_storeAt hsz huk hu1 C.w hb hfit
        generalize (cur.toList.take (i * s + off) ++ (a.eval u).cells.toList ++ cur.toList.drop (i * s + off + k)).toArray = cur' at sp1 sp2 hrun
        have hlen' : off + (v.ev st).cells.length ≤ (rs.getD i []).length := by rw [hlen, hrow]; exact hoff
        have hset := setR_spec hlen'
        have hI := hinv.write (o' := .rows s (rs.set i (setR (rs.getD i []) off (v.ev st).cells))) g2 (by rw [hh]; rfl) hb sp1 (fun j _ => hw j) (.inr ⟨s, rs, _, hh, rfl, by simp⟩) (fun hle => by
            unfold ObjOk
            simp only [upd, if_true]
            refine .inr ⟨L, g2, q0, by simpa using q1, q2, fun row hrow' => ?_, ⟨cur', e, fun i' j => cur'.getD (i' * s + j) undef, setRow_heap _ _ _ _ _ _ hb, sp1.trans hcs, fun i' j c hij => ?_⟩, hw, hG⟩
            · rcases List.mem_or_eq_of_mem_set hrow' with h | h
              · exact q3 _ h
              · rw [h, hset.1, hrow]
            · have main : ∃ w, cur'[i' * s + j]? = some w ∧ w.oneCell' = true ∧ c.closed = true ∧ R C c w := by
                rcases at2_set hij with ⟨rfl, _, hj⟩ | ⟨hne, hj⟩
                · have h0 : CellsR C (rs.getD i' []) (fun j => cur[i' * s + j]?) := fun j c hj => ⟨_, (hc i' j c (at2_some g3 hj)).1, (hc i' j c (at2_some g3 hj)).2.1, (hc i' j c (at2_some g3 hj)).2.2.2⟩
                  obtain ⟨w, e1, e2, e3⟩ := (h0.setR hcv hlen') j c hj
                  refine ⟨w, ?_, e2, ?_, e3⟩
                  · rw [sp2, ← e1, hlen]
                    dsimp only
                    by_cases hin : off ≤ j ∧ j < off + k
                    · rw [if_pos hin, if_pos (by omega), Array.getElem?_toList]
                      congr 1; omega
                    · rw [if_neg hin, if_neg (by omega)]
                  · rw [hset.2] at hj
                    split at hj
                    · exact closedL_all hcl _ _ hj
                    · exact (hc i' j c (at2_some g3 hj)).2.2.1
                · obtain ⟨w1, w2, w3, w4⟩ := hc i' j c hj
                  refine ⟨_, ?_, w2, w3, w4⟩
                  rw [sp2, if_neg (row_apart hne ?_ hoff)]
                  · exact w1
                  · obtain ⟨hi', hj'⟩ := at2_lt hj
                    rw [← q3 _ (List.getElem_mem hi')]
                    exact (List.getElem?_eq_some_iff.1 hj').1
              obtain ⟨w, m1, m2, m3, m4⟩ := main
              have ee : cur'.getD (i' * s + j) undef = w := by
                rw [Array.getD_eq_getD_getElem?, m1]; rfl
              dsimp only
              rw [ee]
              exact ⟨m1, m2, m3, m4.mono hle⟩)
        exact wp_skip' (w' := C.w.setRow L.blk cur') (by simp [execOp, hop, hev, hrun]) (hn _ _ _ (hI.put hd (.undef _)) hK)
    · exact h.elim
  · exact h.elim

end Go.Ab
