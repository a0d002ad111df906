/-
  Each operation of the abstract machine is what the model's operation does: stores.
  Each operation of the abstract machine is what the model's operation does: own slices that become objects; appends.
  Each operation of the abstract machine is what the model's operation does: results that thaw; alloc.
  Each operation of the abstract machine is what the model's operation does: append.
  Each operation of the abstract machine is what the model's operation does: equality.
  What a callee reads through its arguments.
  Calls: what is known less of; the memory behind a call.
  Calls: the arguments.
  Calls: variables that were handed over.
  Calls: what a call does to what is known.
  Calls: the operation.
-/
import Derived.ChangeKeysEq
import Derived.Laws.StructEq
import Derived.Test.YteiafekbmkbldaaK1
set_option linter.all false
namespace Go.Ab
open Go

variable {E : Ent} {n : Sz} {C : Ctx} {st : St} {a : Act} {P : Program}

theorem setRow_ext_ne {w : World} {g b : Nat} {cur : Array Value} (h : b ≠ g) : (w.setRow g cur).heap[b]? = w.heap[b]? := setRow_other w g b cur h

theorem size_setRow (w : World) (g : Nat) (cur : Array Value) : (w.setRow g cur).heap.size = w.heap.size := by simp [World.setRow]

theorem Inv.write (h : Inv E n C st a) {r : Nat} {L : Loc} {cur cur' : Array Value} {e : TypeId} {o' : AO} (hl : C.loc r = some L) (ha : (C.heap r).isDead = false)
    (hb : C.w.heap[L.blk]? = some (.cells cur e (0, 0))) (hs : cur'.size = cur.size)
    (hD : ∀ off, cur'[off]? ≠ cur[off]? → ¬ C.F L.blk off ∧ (E.w0.heap.size ≤ L.blk ∨ E.Wr L.blk off))
    (hkind : (∃ cs cs', C.heap r = .box cs ∧ o' = .box cs') ∨ (∃ s rs rs', C.heap r = .rows s rs ∧ o' = .rows s rs' ∧ rs'.length = rs.length))
    (hok : Le C { C with w := C.w.setRow L.blk cur', heap := upd C.heap r o' } → ObjOk E { C with w := C.w.setRow L.blk cur', heap := upd C.heap r o' } r) :
    Inv E n { C with w := C.w.setRow L.blk cur', heap := upd C.heap r o' } (st.set r o') a := by
  have hblk : (C.w.setRow L.blk cur').heap[L.blk]? = some (.cells cur' e (0, 0)) := setRow_heap C.w L.blk cur cur' e _ hb
  have hle : Le C { C with w := C.w.setRow L.blk cur', heap := upd C.heap r o' } := by
    refine ⟨fun b off hf => ⟨hf, ?_⟩, fun _ h => h, fun r' cs _ h' => ?_, fun r' s rs _ h' => ?_, fun r' ks vs _ h' => ?_⟩
    · by_cases hbb : b = L.blk
      · subst hbb
        have e1 : cur'[off]? = cur[off]? := by
          by_cases hh : cur'[off]? = cur[off]?
          · exact hh
          · exact absurd hf (hD off hh).1
        simp only
        rw [cell_of_row _ _ _ _ _ _ hblk, cell_of_row _ _ _ _ _ _ hb, e1]
      · exact World.cell?_of_block (a := ⟨b, off, none⟩) (setRow_ext_ne hbb)
    · by_cases hrr : r' = r
      · subst hrr
        rcases hkind with ⟨c1, c2, k1, k2⟩ | ⟨s, c1, c2, k1, k2, k3⟩
        · subst k2; exact ⟨⟨c2, by simp [upd]⟩, rfl⟩
        · rw [k1] at h'; cases h'
      · exact ⟨⟨cs, by simp [upd, hrr, h']⟩, rfl⟩
    · by_cases hrr : r' = r
      · subst hrr
        rcases hkind with ⟨c1, c2, k1, k2⟩ | ⟨s', c1, c2, k1, k2, k3⟩
        · rw [k1] at h'; cases h'
        · rw [k1] at h'; cases h'
          subst k2
          exact ⟨⟨c2, by simp [upd], k3⟩, rfl⟩
      · exact ⟨⟨rs, by simp [upd, hrr, h'], rfl⟩, rfl⟩
    · by_cases hrr : r' = r
      · subst hrr
        rcases hkind with ⟨c1, c2, k1, k2⟩ | ⟨s', c1, c2, k1, k2, k3⟩ <;> (rw [k1] at h'; cases h')
      · exact ⟨⟨ks, vs, by simp [upd, hrr, h']⟩, rfl⟩
  have hdead : ∀ r', (upd C.heap r o' r').isDead = false → (C.heap r').isDead = false := by
    intro r' hd
    by_cases hrr : r' = r
    · subst hrr; exact ha
    · simpa [upd, hrr] using hd
  have hh : Hist E { C with w := C.w.setRow L.blk cur', heap := upd C.heap r o' } a := h.hist hle.F fun b o ho hb' => (setRow_ext_ne fun e => by subst e; rw [hb] at hb'; cases hb'; cases ho).trans hb'
  exact { heap := by simp [St.set, h.heap]
          env := fun t => (h.env t).mono hle
          objs := fun r' => by
            by_cases hrr : r' = r
            · subst hrr; exact hok hle
            · refine (h.objs r').mono hle ⟨fun b _ _ hF hG => ⟨rfl, setRow_ext_ne ((h.objs r).apart hl ha hF hG), fun _ h => h⟩⟩ (by simp [upd, hrr]) rfl fun L' hl' ha' => ⟨?_, fun _ h => h, fun h => h⟩
              exact setRow_ext_ne fun ee => hrr (h.inj r' r L' L hl' hl ha' ha ee)
          inj := fun r1 r2 L1 L2 h1 h2 d1 d2 hb => h.inj r1 r2 L1 L2 h1 h2 (hdead r1 d1) (hdead r2 d2) hb
          fin := fun b off hf => by simp only; rw [size_setRow]; exact h.fin b off hf
          gnew := h.gnew, gsub := h.gsub, par := h.par, fnew := h.fnew
          frame := ⟨h.frame.os, h.frame.output, h.frame.tape, by simp only; rw [size_setRow]; exact h.frame.size, fun b hlt => by
            have hsame := h.frame.same b hlt
            by_cases hbb : b = L.blk
            · subst hbb
              simp only
              rw [hblk]
              rw [hb] at hsame
              cases ho : E.w0.heap[L.blk]? with
              | none => rw [ho] at hsame; simp [sameBut] at hsame
              | some o =>
                rw [ho] at hsame
                cases o with
                | cells c e1 fr =>
                  simp only [sameBut] at hsame ⊢
                  obtain ⟨s1, s2, s3, s4⟩ := hsame
                  refine ⟨s1, s2, hs.trans s3, fun off hw => ?_⟩
                  have : cur'[off]? = cur[off]? := by
                    by_cases hh : cur'[off]? = cur[off]?
                    · exact hh
                    · rcases (hD off hh).2 with h1 | h1
                      · omega
                      · exact absurd h1 hw
                  rw [this]; exact s4 off hw
                | _ => simp [sameBut] at hsame
            · simp only
              rw [setRow_ext_ne hbb]; exact hsame⟩
          marks := hh.marks, mnd := hh.mnd, fkeep := hh.fkeep, stay := hh.stay, wsz := hh.wsz, mball := h.mball, size := h.size }

theorem run_storeAt {t k b o : Nat} {u : Value} {cur : Array Value} {e : TypeId} (hs : szOk P t k = true) (hk : u.cells.size = k) (h1 : ∀ v ∈ u.cells.toList, v.oneCell' = true) (w : World)
    (hb : w.heap[b]? = some (.cells cur e (0, 0))) (hfit : o + k ≤ cur.size) :
    (Instr.storeAt t (.pointer (some ⟨b, o, none⟩)) u).run P w = .ok () (w.setRow b (cur.toList.take o ++ u.cells.toList ++ cur.toList.drop (o + k)).toArray) := by
  obtain ⟨i, hi, hsz⟩ := szOk_spec hs
  have := run_storeCells_at P b o e u.cells.toList 0 cur w hb (by simpa [hk] using hfit) h1
  simp only [Nat.add_zero, Array.length_toList, hk] at this
  simp [Instr.storeAt, Instr.sureAddr, storeVar, sizeOf, typeInfo, hi, hsz, hk, this]

theorem splice_get {cur : Array Value} {vs : List Value} {o k : Nat} (hk : vs.length = k) (hfit : o + k ≤ cur.size) :
    (cur.toList.take o ++ vs ++ cur.toList.drop (o + k)).toArray.size = cur.size ∧ ∀ j, (cur.toList.take o ++ vs ++ cur.toList.drop (o + k)).toArray[j]? = if o ≤ j ∧ j < o + k then vs[j - o]? else cur[j]? := by
  refine ⟨by simp; omega, fun j => ?_⟩
  have hl : (cur.toList.take o).length = o := by simp; omega
  rw [List.getElem?_toArray]
  by_cases h1 : j < o
  · rw [if_neg (by omega), List.append_assoc, List.getElem?_append_left (by omega), List.getElem?_take, if_pos h1, Array.getElem?_toList]
  · by_cases h2 : j < o + k
    · rw [if_pos ⟨by omega, h2⟩, List.append_assoc, List.getElem?_append_right (by omega), hl, List.getElem?_append_left (by omega)]
    · rw [if_neg (by omega), List.append_assoc, List.getElem?_append_right (by omega), hl, List.getElem?_append_right (by omega), List.getElem?_drop, Array.getElem?_toList]
      congr 1; omega

theorem okOp_store {k : Nat} {x v : X} {op : Op} (h : okOp P (.store k x v) op = true) : ∃ t y u, op = .store t y u ∧ szOk P t k = true ∧ 0 < k ∧ okX x y = true ∧ okX v u = true := by
  cases op with
  | store t y u =>
    simp only [okOp, Bool.and_eq_true, decide_eq_true_eq] at h
    exact ⟨t, y, u, rfl, h.1.1.1, h.1.1.2, h.1.2, h.2⟩
  | _ => simp [okOp] at h

theorem R_cells_one {v : V} {u : Value} (h : R C v u) (hv : v.val = true) : ∀ w ∈ u.cells.toList, w.oneCell' = true := by
  intro w hw
  obtain ⟨c1, c2⟩ := R_cells h hv
  obtain ⟨j, hj⟩ := List.getElem?_of_mem hw
  have hlt : j < v.cells.length := by rw [c1]; have := (List.getElem?_eq_some_iff.1 hj).1; simpa using this
  obtain ⟨_, a2, _⟩ := c2 j _ (List.getElem?_eq_getElem hlt)
  rw [Array.getElem?_toList] at hj
  have e : u.cells.getD j undef = w := by simp [Array.getD_eq_getD_getElem?, hj]
  rw [e] at a2; exact a2

theorem cells_of {cur : Array Value} {f : Nat → Nat} {cs : List V} (h : CellsR C cs (fun j => cur[f j]?)) :
    ∀ (j : Nat) (c : V), cs[j]? = some c → cur[f j]? = some (cur.getD (f j) undef) ∧ (cur.getD (f j) undef).oneCell' = true ∧ R C c (cur.getD (f j) undef) := by
  intro j c hj
  obtain ⟨u, h1, h2, h3⟩ := h j c hj
  dsimp only at h1
  have e : cur.getD (f j) undef = u := by simp [Array.getD_eq_getD_getElem?, h1]
  rw [e]
  exact ⟨h1, h2, h3⟩

theorem CellsR.mono {C' : Ctx} (hc : Le C C') {cs : List V} {f : Nat → Option Value} (h : CellsR C cs f) : CellsR C' cs f :=
  fun j c hj => let ⟨u, h1, h2, h3⟩ := h j c hj; ⟨u, h1, h2, h3.mono hc⟩

theorem at2_set {rs : List (List V)} {i i' j : Nat} {row : List V} {c : V} (h : at2 (rs.set i row) i' j = some c) : (i' = i ∧ i < rs.length ∧ row[j]? = some c) ∨ (i' ≠ i ∧ at2 rs i' j = some c) := by
  obtain ⟨h0, h2⟩ := at2_lt h
  have h1 : i' < rs.length := by simpa using h0
  by_cases e : i' = i
  · subst e
    simp only [List.getElem_set_self] at h2
    exact .inl ⟨rfl, h1, h2⟩
  · rw [List.getElem_set_ne (fun h => e h.symm)] at h2
    exact .inr ⟨e, by unfold at2; rw [List.getElem?_eq_getElem h1]; exact h2⟩

theorem row_apart {i i' j s off k : Nat} (hne : i' ≠ i) (hj : j < s) (hk : off + k ≤ s) : ¬ (i * s + off ≤ i' * s + j ∧ i' * s + j < i * s + off + k) := by
  rintro ⟨h1, h2⟩
  rcases Nat.lt_or_gt_of_ne hne with h | h
  · have : i' * s + s ≤ i * s := by rw [← Nat.succ_mul]; exact Nat.mul_le_mul_right _ h
    omega
  · have : i * s + s ≤ i' * s := by rw [← Nat.succ_mul]; exact Nat.mul_le_mul_right _ h
    omega

theorem snd_store {k : Nat} {x v : X} : Snd P (.store k x v) := by
  intro E n C st a o d K next Q hinv hok hd h hn _
  obtain ⟨t, y, u, hop, hsz, hk0, hx, hv⟩ := okOp_store hok
  have hX := hinv.ev hx
  have hV := hinv.ev hv
  simp only [eff] at h
  obtain ⟨hval, hlen, h⟩ := h
  have hcv := cellsR_val hV hval
  have huk : (a.eval u).cells.size = k := by rw [← (R_cells hV hval).1]; exact hlen
  have hu1 := R_cells_one hV hval
  split at h
  · rename_i r off ex
    rw [ex] at hX
    split at h
    · rename_i cs hh
      rw [← hinv.heap] at hh
      obtain ⟨hoff, hK⟩ := h
      generalize hev : a.eval y = p at hX
      cases hX with
      | ptr _ _ cs' L g1 g2 =>
        rw [hh] at g1; cases g1
        have ho := hinv.objs r
        unfold ObjOk at ho
        rw [hh] at ho
        obtain ⟨L', hl', ⟨cur, e, g, hb, hc⟩, hw, hFG⟩ := ho
        rw [g2] at hl'; cases hl'
        have hfit : L.base + off + k ≤ cur.size := by
          obtain ⟨q1, _, _⟩ := hc (cs.length - 1) _ (List.getElem?_eq_getElem (by omega))
          have := (Array.getElem?_eq_some_iff.1 q1).1
          omega
        obtain ⟨sp1, sp2⟩ := splice_get (vs := (a.eval u).cells.toList) (by simpa using huk) hfit
        have hrun := run_storeAt hsz huk hu1 C.w hb hfit
        generalize (cur.toList.take (L.base + off) ++ (a.eval u).cells.toList ++ cur.toList.drop (L.base + off + k)).toArray = cur' at sp1 sp2 hrun
        have hlen' : off + (v.ev st).cells.length ≤ cs.length := by rw [hlen]; exact hoff
        have hset := setR_spec hlen'
        have hI := hinv.write (o' := .box (setR cs off (v.ev st).cells)) g2 (by rw [hh]; rfl) hb sp1 (fun j hj => by
            rw [sp2] at hj
            split at hj
            · rename_i hin
              have := hw (j - L.base) (by omega)
              rw [show L.base + (j - L.base) = j by omega] at this
              exact this
            · exact absurd rfl hj) (.inl ⟨cs, _, hh, rfl⟩) (fun hle => by
            unfold ObjOk
            simp only [upd, if_true]
            refine ⟨L, g2, ⟨cur', e, fun j => cur'.getD (L.base + j) undef, setRow_heap _ _ _ _ _ _ hb, cells_of (f := fun j => L.base + j) ?_⟩, fun j hj => hw j (by rw [← hset.1]; exact hj), hFG⟩
            have h0 : CellsR C cs (fun j => cur[L.base + j]?) := fun j c hj => ⟨_, (hc j c hj).1, (hc j c hj).2⟩
            intro j c hj
            obtain ⟨w, e1, e2, e3⟩ := (h0.setR hcv hlen') j c hj
            refine ⟨w, ?_, e2, e3.mono hle⟩
            dsimp only
            rw [sp2, ← e1, hlen]
            dsimp only
            by_cases hin : off ≤ j ∧ j < off + k
            · rw [if_pos hin, if_pos (by omega), Array.getElem?_toList]
              congr 1; omega
            · rw [if_neg hin, if_neg (by omega)])
        exact wp_skip' (w' := C.w.setRow L.blk cur') (by simp [execOp, hop, hev, hrun]) (hn _ _ _ (hI.put hd (.undef _)) hK)
    · exact h.elim
  · rename_i r i off ex
    rw [ex] at hX
    split at h
    · rename_i s rs hh
      rw [← hinv.heap] at hh
      obtain ⟨hcl, hoff, hK⟩ := h
      generalize hev : a.eval y = p at hX
      cases hX with
      | rptr _ _ _ s' rs' L g1 g2 g3 =>
        rw [hh] at g1; cases g1
        have ho := hinv.objs r
        unfold ObjOk at ho
        rw [hh] at ho
        rcases ho with ⟨_, ho⟩ | ⟨L', hl', q0, q1, q2, q3, ⟨cur, e, g, hb, hcs, hc⟩, hw, hG⟩
        · rw [g2] at ho; cases ho
        rw [g2] at hl'; cases hl'
        have hrow : (rs.getD i []).length = s := by
          have : rs.getD i [] = rs[i] := by simp [g3]
          rw [this]; exact q3 _ (List.getElem_mem g3)
        have hile : i * s + s ≤ L.cap * s := by rw [← Nat.succ_mul]; exact Nat.mul_le_mul_right _ (by omega)
        have hfit : i * s + off + k ≤ cur.size := by omega
        obtain ⟨sp1, sp2⟩ := splice_get (vs := (a.eval u).cells.toList) (by simpa using huk) hfit
        have hrun := run_storeAt hsz huk hu1 C.w hb hfit
        generalize (cur.toList.take (i * s + off) ++ (a.eval u).cells.toList ++ cur.toList.drop (i * s + off + k)).toArray = cur' at sp1 sp2 hrun
        have hlen' : off + (v.ev st).cells.length ≤ (rs.getD i []).length := by rw [hlen, hrow]; exact hoff
        have hset := setR_spec hlen'
        have hI := hinv.write (o' := .rows s (rs.set i (setR (rs.getD i []) off (v.ev st).cells))) g2 (by rw [hh]; rfl) hb sp1 (fun j _ => hw j) (.inr ⟨s, rs, _, hh, rfl, by simp⟩) (fun hle => by
            unfold ObjOk
            simp only [upd, if_true]
            refine .inr ⟨L, g2, q0, by simpa using q1, q2, fun row hrow' => ?_, ⟨cur', e, fun i' j => cur'.getD (i' * s + j) undef, setRow_heap _ _ _ _ _ _ hb, sp1.trans hcs, fun i' j c hij => ?_⟩, hw, hG⟩
            · rcases List.mem_or_eq_of_mem_set hrow' with h | h
              · exact q3 _ h
              · rw [h, hset.1, hrow]
            · have main : ∃ w, cur'[i' * s + j]? = some w ∧ w.oneCell' = true ∧ c.closed = true ∧ R C c w := by
                rcases at2_set hij with ⟨rfl, _, hj⟩ | ⟨hne, hj⟩
                · have h0 : CellsR C (rs.getD i' []) (fun j => cur[i' * s + j]?) := fun j c hj => ⟨_, (hc i' j c (at2_some g3 hj)).1, (hc i' j c (at2_some g3 hj)).2.1, (hc i' j c (at2_some g3 hj)).2.2.2⟩
                  obtain ⟨w, e1, e2, e3⟩ := (h0.setR hcv hlen') j c hj
                  refine ⟨w, ?_, e2, ?_, e3⟩
                  · rw [sp2, ← e1, hlen]
                    dsimp only
                    by_cases hin : off ≤ j ∧ j < off + k
                    · rw [if_pos hin, if_pos (by omega), Array.getElem?_toList]
                      congr 1; omega
                    · rw [if_neg hin, if_neg (by omega)]
                  · rw [hset.2] at hj
                    split at hj
                    · exact closedL_all hcl _ _ hj
                    · exact (hc i' j c (at2_some g3 hj)).2.2.1
                · obtain ⟨w1, w2, w3, w4⟩ := hc i' j c hj
                  refine ⟨_, ?_, w2, w3, w4⟩
                  rw [sp2, if_neg (row_apart hne ?_ hoff)]
                  · exact w1
                  · obtain ⟨hi', hj'⟩ := at2_lt hj
                    rw [← q3 _ (List.getElem_mem hi')]
                    exact (List.getElem?_eq_some_iff.1 hj').1
              obtain ⟨w, m1, m2, m3, m4⟩ := main
              have ee : cur'.getD (i' * s + j) undef = w := by
                rw [Array.getD_eq_getD_getElem?, m1]; rfl
              dsimp only
              rw [ee]
              exact ⟨m1, m2, m3, m4.mono hle⟩)
        exact wp_skip' (w' := C.w.setRow L.blk cur') (by simp [execOp, hop, hev, hrun]) (hn _ _ _ (hI.put hd (.undef _)) hK)
    · exact h.elim
  · exact h.elim

end Go.Ab

namespace Go.Ab
open Go

variable {E : Ent} {n : Sz} {C : Ctx} {st : St} {a : Act} {P : Program}

structure Free (E : Ent) (C : Ctx) (b : Nat) : Prop where
  F : ∀ off, ¬ C.F b off
  G : C.G b
  W : ∀ off, E.w0.heap.size ≤ b ∨ E.Wr b off
  obj : ∀ r L, C.loc r = some L → (C.heap r).isDead = false → L.blk ≠ b

structure OwnAt (C : Ctx) (b cap s : Nat) (rows : List (List V)) : Prop where
  le : rows.length ≤ cap
  max : cap ≤ maxLen
  width : ∀ r ∈ rows, r.length = s
  cells : ∃ (cur : Array Value) (e : TypeId) (g : Nat → Nat → Value), C.w.heap[b]? = some (.cells cur e (0, 0)) ∧ cur.size = cap * s ∧
    ∀ i j c, at2 rows i j = some c → cur[i * s + j]? = some (g i j) ∧ (g i j).oneCell' = true ∧ c.closed = true ∧ R C c (g i j)

theorem OwnAt.mono {C' : Ctx} {b cap s : Nat} {rows : List (List V)} (h : OwnAt C b cap s rows) (hc : Le C C') (hb : C'.w.heap[b]? = C.w.heap[b]?) : OwnAt C' b cap s rows := by
  obtain ⟨cur, e, g, h1, h2, h3⟩ := h.cells
  exact ⟨h.le, h.max, h.width, cur, e, g, hb.trans h1, h2, fun i j c hij => ⟨(h3 i j c hij).1, (h3 i j c hij).2.1, (h3 i j c hij).2.2.1, (h3 i j c hij).2.2.2.mono hc⟩⟩

theorem OwnR_iff {s : Nat} {rows : List (List V)} {u : Value} : OwnR C s rows u ↔ (rows = [] ∧ (u = .slice none 0 0 ∨ ∃ b off, u = .slice (some ⟨b, off, none⟩) 0 0)) ∨ ∃ b cap, u = .slice (some ⟨b, 0, none⟩) rows.length cap ∧ 0 < cap ∧ OwnAt C b cap s rows := by
  unfold OwnR
  constructor
  · rintro (⟨h, h'⟩ | ⟨h, h'⟩ | ⟨b, cap, cur, e, g, h1, h0, h2, h3, h4, h5, h6, h7⟩)
    · exact .inl ⟨h, .inl h'⟩
    · exact .inl ⟨h, .inr h'⟩
    · exact .inr ⟨b, cap, h1, h0, h2, h3, h6, cur, e, g, h4, h5, h7⟩
  · rintro (⟨h, h' | h'⟩ | ⟨b, cap, h1, h0, ⟨h2, h3, h6, cur, e, g, h4, h5, h7⟩⟩)
    · exact .inl ⟨h, h'⟩
    · exact .inr (.inl ⟨h, h'⟩)
    · exact .inr (.inr ⟨b, cap, cur, e, g, h1, h0, h2, h3, h4, h5, h6, h7⟩)

theorem Free.mono {C' : Ctx} {b : Nat} (h : Free E C b) (hF : ∀ off, C'.F b off → C.F b off) (hG : C.G b → C'.G b) (ho : ∀ r L, C'.loc r = some L → (C'.heap r).isDead = false → L.blk = b → C.loc r = some L ∧ (C.heap r).isDead = false) : Free E C' b :=
  ⟨fun off hf => h.F off (hF off hf), hG h.G, h.W, fun r L h1 h2 h3 => by obtain ⟨h4, h5⟩ := ho r L h1 h2 h3; exact h.obj r L h4 h5 h3⟩

theorem Inv.freeze (h : Inv E n C st a) {b : Nat} (hb : b < C.w.heap.size) (hf : Free E C b) : Inv E n { C with F := fun b' off => C.F b' off ∨ b' = b } st a ∧ Le C { C with F := fun b' off => C.F b' off ∨ b' = b } := by
  have hc : Le C { C with F := fun b' off => C.F b' off ∨ b' = b } := ⟨fun b off hf => ⟨.inl hf, rfl⟩, fun _ h => h, fun _ cs _ h => ⟨⟨cs, h⟩, rfl⟩, fun _ _ rs _ h => ⟨⟨rs, h, rfl⟩, rfl⟩, fun _ ks vs _ h => ⟨⟨ks, vs, h⟩, rfl⟩⟩
  have hh : Hist E { C with F := fun b' off => C.F b' off ∨ b' = b } a := h.hist hc.F fun _ _ _ hb' => hb'
  exact ⟨{ heap := h.heap, env := fun t => (h.env t).mono hc
           objs := fun r => (h.objs r).mono hc ⟨fun b' _ _ hF _ => ⟨rfl, rfl, fun off hx => hx.resolve_right fun e => hf.F 0 (e ▸ hF)⟩⟩ rfl rfl fun L hl ha => ⟨rfl, fun off hx => hx.resolve_right (hf.obj r L hl ha), fun h => h⟩
           inj := h.inj
           fin := fun b' off hx => by
             rcases hx with hx | rfl
             · exact h.fin b' off hx
             · exact hb
           gnew := h.gnew, gsub := h.gsub, par := h.par
           fnew := fun b' off hx => by
             rcases hx with hx | rfl
             · exact h.fnew b' off hx
             · exact .inr hf.G
           frame := h.frame, marks := hh.marks, mnd := hh.mnd, fkeep := hh.fkeep, stay := hh.stay, wsz := hh.wsz, mball := h.mball, size := h.size }, hc⟩

theorem Inv.takeObj (h : Inv E n C st a) {b cap s : Nat} {rows : List (List V)} (hf : Free E C b) (ho : OwnAt C b cap s rows) {r : Nat} (hr : (st.heap r).isDead = true) :
    ∃ C', Inv E n C' (st.set r (.rows s rows)) a ∧ C'.w = C.w ∧ R C' (.sref r 0 rows.length) (.slice (some ⟨b, 0, none⟩) rows.length cap) ∧ Le C C' ∧
      C'.heap = upd C.heap r (.rows s rows) ∧ C'.loc = upd C.loc r (some ⟨b, 0, cap⟩) ∧ C'.F = C.F ∧ C'.G = C.G := by
  have l2 := h.le_obj hr (.rows s rows) (some ⟨b, 0, cap⟩)
  obtain ⟨cur, e, g, hcur, hsz, hcell⟩ := ho.cells
  refine ⟨{ C with heap := upd C.heap r (.rows s rows), loc := upd C.loc r (some ⟨b, 0, cap⟩) }, h.obj hr ?_ ?_, rfl, ?_, l2, rfl, rfl, rfl, rfl⟩
  · unfold ObjOk
    simp only [upd, if_true]
    exact .inr ⟨_, rfl, rfl, ho.le, ho.max, ho.width, ⟨cur, e, g, hcur, hsz, fun i j c hij => ⟨(hcell i j c hij).1, (hcell i j c hij).2.1, (hcell i j c hij).2.2.1, (hcell i j c hij).2.2.2.mono l2⟩⟩, fun off => ⟨hf.F off, hf.W off⟩, hf.G⟩
  · rintro L' hL' r' L'' _ hl ha
    cases hL'
    exact hf.obj r' L'' hl ha
  · have : R { C with heap := upd C.heap r (.rows s rows), loc := upd C.loc r (some ⟨b, 0, cap⟩) } (.sref r 0 rows.length) (.slice (some ⟨b, 0 * s, none⟩) rows.length (cap - 0)) :=
      .sref r 0 rows.length s rows ⟨b, 0, cap⟩ (by simp [upd]) (by simp [upd]) (by omega)
    simpa using this

theorem Inv.takeVal (h : Inv E n C st a) {b cap s : Nat} {rows : List (List V)} (hf : Free E C b) (ho : OwnAt C b cap s rows) :
    ∃ C', Inv E n C' st a ∧ C'.w = C.w ∧ R C' (.sl true s rows) (.slice (some ⟨b, 0, none⟩) rows.length cap) ∧ Le C C' ∧ C'.heap = C.heap ∧ C'.loc = C.loc ∧ (∀ b' off, C'.F b' off ↔ C.F b' off ∨ b' = b) ∧ C'.G = C.G := by
  obtain ⟨cur, e, g, hcur, hsz, hcell⟩ := ho.cells
  obtain ⟨h1, h2⟩ := h.freeze (block_lt hcur) hf
  refine ⟨_, h1, rfl, ?_, h2, rfl, rfl, fun _ _ => Iff.rfl, rfl⟩
  refine .sl true s rows b 0 cap g ho.le ho.max ho.width (fun _ _ => hf.G) (fun i j c hij => ?_) (fun i j c hij => (hcell i j c hij).2.2.1) (fun i j c hij => (hcell i j c hij).2.2.2.mono h2)
  obtain ⟨a1, a2, _, _⟩ := hcell i j c hij
  refine ⟨?_, .inr rfl, a2⟩
  simp only [Nat.zero_add]
  rw [cell_of_row _ _ _ _ _ _ hcur]
  exact a1

theorem Inv.take (h : Inv E n C st a) {b cap s : Nat} {rows : List (List V)} (hf : Free E C b) (ho : OwnAt C b cap s rows) {mode d : Option Nat} {K : St → Prop} (hk : newSl s rows mode d st K) :
    ∃ C' st' v, Inv E n C' st' a ∧ C'.w = C.w ∧ R C' v (.slice (some ⟨b, 0, none⟩) rows.length cap) ∧ K (st'.put d v) := by
  cases mode with
  | none =>
    obtain ⟨C', h1, h2, h3, _⟩ := h.takeVal hf ho
    exact ⟨C', st, _, h1, h2, h3, hk⟩
  | some r =>
    obtain ⟨h0, hk⟩ := hk
    obtain ⟨C', h1, h2, h3, _⟩ := h.takeObj hf ho h0
    exact ⟨C', _, _, h1, h2, h3, hk⟩

theorem Inv.mapNew (h : Inv E n C st a) {b : Nat} (hf : Free E C b) {es : Array MapEntry} {clock : Nat} (hb : C.w.heap[b]? = some (.map es clock)) : E.w0.heap.size ≤ b := by
  rcases hf.W 0 with h1 | h1
  · exact h1
  · rcases Nat.lt_or_ge b E.w0.heap.size with h2 | h2
    · exfalso
      have h3 := h.frame.same b h2
      have h4 := E.wr b 0 h1
      rw [hb] at h3
      cases ho : E.w0.heap[b]? with
      | none => rw [ho] at h3; simp [sameBut] at h3
      | some o =>
        rw [ho] at h3
        cases o with
        | map es' clock' => exact h4 _ _ ho
        | _ => simp [sameBut] at h3
    · exact h2

theorem Inv.takeMap (h : Inv E n C st a) {b clock : Nat} {ents : Array MapEntry} {ks vs : List V} (hf : Free E C b) (hb : C.w.heap[b]? = some (.map ents clock)) (h1 : ks.length = ents.size) (h2 : vs.length = ents.size)
    (h3 : ∀ (j : Nat) k, ks[j]? = some k → k.keyOk = true ∧ ∃ e, ents[j]? = some e ∧ R C k e.key) (h4 : ∀ (j : Nat) v, vs[j]? = some v → v.closed = true ∧ ∃ e, ents[j]? = some e ∧ R C v e.val) {r : Nat} (hr : (st.heap r).isDead = true) (hmb : E.Mb b) :
    ∃ C', Inv E n C' (st.set r (.mp ks vs)) a ∧ C'.w = C.w ∧ R C' (.mp r) (.map (some b)) ∧ Le C C' ∧
      C'.heap = upd C.heap r (.mp ks vs) ∧ C'.loc = upd C.loc r (some ⟨b, 0, 0⟩) ∧ C'.F = C.F ∧ C'.G = C.G := by
  have l2 := h.le_obj hr (.mp ks vs) (some ⟨b, 0, 0⟩)
  refine ⟨{ C with heap := upd C.heap r (.mp ks vs), loc := upd C.loc r (some ⟨b, 0, 0⟩) }, h.obj hr ?_ ?_, rfl, .mp r ks vs ⟨b, 0, 0⟩ (by simp [upd]) (by simp [upd]), l2, rfl, rfl, rfl, rfl⟩
  · unfold ObjOk
    simp only [upd, if_true]
    refine ⟨_, rfl, ⟨clock, ents, hb, h1, h2, fun j k hj => ?_, fun j v hj => ?_⟩, h.mapNew hf hb, hf.F, hmb⟩
    · obtain ⟨a1, e, a2, a3⟩ := h3 j k hj
      exact ⟨a1, e, a2, a3.mono l2⟩
    · obtain ⟨a1, e, a2, a3⟩ := h4 j v hj
      exact ⟨e, a2, by rw [EntOk.other fun s rows e => by subst e; simp [V.closed] at a1]; exact ⟨a1, a3.mono l2⟩⟩
  · rintro L' hL' r' L'' _ hl ha
    cases hL'
    exact hf.obj r' L'' hl ha


theorem RB1_own {s : Nat} {rows : List (List V)} {u : Value} : RB1 C (.own s rows) u = OwnR C s rows u := rfl
theorem RB1_other {c : V} {u : Value} (h : ∀ s rows, c ≠ .own s rows) (h' : ∀ ks vs, c ≠ .ownm ks vs) : RB1 C c u = R C c u := by
  unfold RB1; split <;> first | exact absurd rfl (h _ _) | exact absurd rfl (h' _ _) | rfl
theorem MapR.mono {C' : Ctx} (hc : Le C C') {ks vs : List V} {u : Value} (hw : ∀ (b : Nat) (es : Array MapEntry) (clock : Nat), C.w.heap[b]? = some (.map es clock) → C'.w.heap[b]? = some (.map es clock)) (h : MapR C ks vs u) : MapR C' ks vs u := by
  obtain ⟨b, clock, ents, h1, h2, h3, h4, h5, h6⟩ := h
  refine ⟨b, clock, ents, h1, hw _ _ _ h2, h3, h4, fun j k hj => ?_, fun j v hj => ?_⟩
  · obtain ⟨a1, e, a2, a3⟩ := h5 j k hj
    exact ⟨a1, e, a2, a3.mono hc⟩
  · obtain ⟨a1, e, a2, a3⟩ := h6 j v hj
    exact ⟨a1, e, a2, a3.mono hc⟩

theorem RB1_mono {C' : Ctx} (hc : Le C C') (hw : C'.w = C.w) {c : V} {u : Value} (h : RB1 C c u) : RB1 C' c u := by
  by_cases hcc : ∃ s rows, c = .own s rows
  · obtain ⟨s, rows, rfl⟩ := hcc
    rw [RB1_own, OwnR_iff] at h ⊢
    rcases h with h | ⟨b, cap, h1, h2⟩
    · exact .inl h
    · exact .inr ⟨b, cap, h1, h2.1, h2.2.mono hc (by rw [hw])⟩
  · have hne : ∀ s rows, c ≠ .own s rows := fun s rows e => hcc ⟨s, rows, e⟩
    by_cases hm : ∃ ks vs, c = .ownm ks vs
    · obtain ⟨ks, vs, rfl⟩ := hm
      exact MapR.mono hc (fun _ _ _ hb => by rw [hw]; exact hb) h
    · have hm' : ∀ ks vs, c ≠ .ownm ks vs := fun ks vs e => hm ⟨ks, vs, e⟩
      rw [RB1_other hne hm'] at h ⊢
      exact h.mono hc

structure Thawed (E : Ent) (n : Sz) (C : Ctx) (st : St) (a : Act) (os : List Nat) (ns : List Nat) (x : List Nat × List (Nat × AO)) (C' : Ctx) : Prop where
  inv : Inv E n C' (st.sets x.2) a
  w : C'.w = C.w
  le : Le C C'
  free : ∀ b, Free E C b → b ∉ os → Free E C' b
  sub : x.1.Sublist ns
  dead : ∀ r ∈ x.1, ((st.sets x.2).heap r).isDead = true
  other : ∀ r, r ∉ ns → (st.sets x.2).heap r = st.heap r
  F : ∀ b off, b ∉ os → C'.F b off → C.F b off
  G : C'.G = C.G
  obj : ∀ r L, C'.loc r = some L → (C'.heap r).isDead = false → (C.loc r = some L ∧ (C.heap r).isDead = false) ∨ L.blk ∈ os

theorem thawC_sound (h : Inv E n C st a) {c : V} {u : Value} {ns : List Nat} (hR : RB1 C c u) (hown : ∀ b ∈ owns1 c u, Free E C b) (hns : ns.Nodup) (hdead : ∀ r ∈ ns, (st.heap r).isDead = true) (hmb : (∃ ks vs, c = .ownm ks vs) → ns ≠ [] → ∀ b, E.Mb b) :
    ∃ C', Thawed E n C st a (owns1 c u) ns ((thawC c ns).2) C' ∧ R C' (thawC c ns).1 u := by
  by_cases hc : ∃ s rows, c = .own s rows
  · obtain ⟨s, rows, rfl⟩ := hc
    simp only [RB1, OwnR_iff] at hR
    cases ns with
    | nil =>
      rcases hR with ⟨rfl, hu⟩ | ⟨b, cap, rfl, hc0, ho⟩
      · refine ⟨C, ⟨h, rfl, h.le_grow (Ext.refl _) (fun _ _ h => h), fun b hb _ => hb, List.Sublist.refl _, fun r hr => by simp [thawC] at hr, fun r _ => rfl, fun _ _ _ h => h, rfl, fun _ _ h1 h2 => .inl ⟨h1, h2⟩⟩, ?_⟩
        rcases hu with rfl | ⟨b, off, rfl⟩
        · exact .slNil true s
        · exact .sl true s [] b off 0 (fun _ _ => undef) (by simp) (by simp [maxLen]) (by simp) (by simp) (fun i j c hij => by simp [at2] at hij) (fun i j c hij => by simp [at2] at hij) (fun i j c hij => by simp [at2] at hij)
      · have hc0' : cap ≠ 0 := by omega
        have hf := hown b (by simp [owns1, hc0'])
        obtain ⟨C', h1, h2, h3, h4, h5, h6, h7, h8⟩ := h.takeVal hf ho
        refine ⟨C', ⟨h1, h2, h4, fun b' hb' hne => ?_, List.Sublist.refl _, fun r hr => by simp [thawC] at hr, fun r _ => rfl, fun b' off hne hx => ((h7 b' off).1 hx).resolve_right (fun e => hne (by simp [owns1, e, hc0'])), h8, fun r L q1 q2 => .inl (by rw [h6] at q1; rw [h5] at q2; exact ⟨q1, q2⟩)⟩, h3⟩
        have hne' : b' ≠ b := fun e => hne (by simp [owns1, e, hc0'])
        exact hb'.mono (fun off hx => ((h7 b' off).1 hx).resolve_right hne') (fun h => by rw [h8]; exact h) (fun r L q1 q2 _ => by rw [h6] at q1; rw [h5] at q2; exact ⟨q1, q2⟩)
    | cons r ns =>
      have hr := hdead r (by simp)
      have hnr : r ∉ ns := (List.nodup_cons.1 hns).1
      have dd : ∀ r' ∈ ns, ((st.set r (.rows s rows)).heap r').isDead = true := fun r' hr' => by
        have : r' ≠ r := fun e => hnr (e ▸ hr')
        simp only [St.set, upd, this, if_false]
        exact hdead r' (by simp [hr'])
      rcases hR with ⟨rfl, hu⟩ | ⟨b, cap, rfl, hc0, ho⟩
      · refine ⟨{ C with heap := upd C.heap r (.rows s []), loc := upd C.loc r none }, ⟨h.obj hr (by unfold ObjOk; simp [upd]) (fun L' hL' => by cases hL'), rfl, h.le_obj hr _ _, fun b' hb' _ => ?_, List.sublist_cons_self _ _, dd, fun r' hr' => ?_, fun _ _ _ h => h, rfl, fun r' L q1 q2 => ?_⟩, ?_⟩
        · refine hb'.mono (fun _ h => h) (fun h => h) fun r' L q1 q2 _ => ?_
          by_cases e : r' = r
          · simp [upd, e] at q1
          · simp only [upd, e, if_false] at q1 q2; exact ⟨q1, q2⟩
        · have : r' ≠ r := fun e => hr' (by simp [e])
          simp [thawC, St.sets, St.set, upd, this]
        · by_cases e : r' = r
          · simp [upd, e] at q1
          · simp only [upd, e, if_false] at q1 q2; exact .inl ⟨q1, q2⟩
        · rcases hu with rfl | ⟨b, off, rfl⟩
          · exact .srefNil r s (by simp [upd]) (by simp [upd])
          · exact .srefZ r 0 s [] b off (by simp [upd]) (Nat.le_refl _)
      · have hc0' : cap ≠ 0 := by omega
        have hf := hown b (by simp [owns1, hc0'])
        obtain ⟨C', h1, h2, h3, h4, h5, h6, h7, h8⟩ := h.takeObj hf ho hr
        refine ⟨C', ⟨h1, h2, h4, fun b' hb' hne => ?_, List.sublist_cons_self _ _, dd, fun r' hr' => ?_, fun b' off _ hx => by rw [h7] at hx; exact hx, h8, fun r' L q1 q2 => ?_⟩, h3⟩
        · have hne' : b' ≠ b := fun e => hne (by simp [owns1, e, hc0'])
          refine hb'.mono (fun off hx => by rw [h7] at hx; exact hx) (fun h => by rw [h8]; exact h) fun r' L q1 q2 q3 => ?_
          by_cases e : r' = r
          · rw [h6] at q1
            simp only [upd, e, if_true, Option.some.injEq] at q1
            subst q1
            exact absurd q3.symm hne'
          · rw [h6] at q1; rw [h5] at q2
            simp only [upd, e, if_false] at q1 q2; exact ⟨q1, q2⟩
        · have : r' ≠ r := fun e => hr' (by simp [e])
          simp [thawC, St.sets, St.set, upd, this]
        · by_cases e : r' = r
          · rw [h6] at q1
            simp only [upd, e, if_true, Option.some.injEq] at q1
            subst q1
            exact .inr (by simp [owns1, hc0'])
          · rw [h6] at q1; rw [h5] at q2
            simp only [upd, e, if_false] at q1 q2; exact .inl ⟨q1, q2⟩
  · have hc' : ∀ s rows, c ≠ .own s rows := fun s rows e => hc ⟨s, rows, e⟩
    by_cases hm : ∃ ks vs, c = .ownm ks vs
    · obtain ⟨ks, vs, rfl⟩ := hm
      obtain ⟨b, clock, ents, rfl, h2, h3, h4, h5, h6⟩ := hR
      cases ns with
      | nil => exact ⟨C, ⟨h, rfl, h.le_grow (Ext.refl _) (fun _ _ h => h), fun b hb _ => hb, List.Sublist.refl _, fun r hr => by simp [thawC] at hr, fun r _ => rfl, fun _ _ _ h => h, rfl, fun _ _ h1 h2 => .inl ⟨h1, h2⟩⟩, .undef _⟩
      | cons r ns =>
        have hr := hdead r (by simp)
        have hnr : r ∉ ns := (List.nodup_cons.1 hns).1
        have hf := hown b (by simp [owns1])
        obtain ⟨C', g1, g2, g3, g4, g5, g6, g7, g8⟩ := h.takeMap hf h2 h3 h4 h5 h6 hr (hmb ⟨_, _, rfl⟩ (by simp) b)
        refine ⟨C', ⟨g1, g2, g4, fun b' hb' hne => ?_, List.sublist_cons_self _ _, fun r' hr' => ?_, fun r' hr' => ?_, fun b' off _ hx => by rw [g7] at hx; exact hx, g8, fun r' L q1 q2 => ?_⟩, g3⟩
        · have hne' : b' ≠ b := fun e => hne (by simp [owns1, e])
          refine hb'.mono (fun off hx => by rw [g7] at hx; exact hx) (fun hx => by rw [g8]; exact hx) fun r' L q1 q2 q3 => ?_
          by_cases e : r' = r
          · rw [g6] at q1
            simp only [upd, e, if_true, Option.some.injEq] at q1
            subst q1
            exact absurd q3 fun e => hne' e.symm
          · rw [g6] at q1; rw [g5] at q2
            simp only [upd, e, if_false] at q1 q2; exact ⟨q1, q2⟩
        · have : r' ≠ r := fun e => hnr (e ▸ hr')
          simp only [thawC, St.sets, St.set, upd, this, if_false]
          exact hdead r' (by simp at hr' ⊢; exact .inr hr')
        · have : r' ≠ r := fun e => hr' (by simp [e])
          simp [thawC, St.sets, St.set, upd, this]
        · by_cases e : r' = r
          · rw [g6] at q1
            simp only [upd, e, if_true, Option.some.injEq] at q1
            subst q1
            exact .inr (by simp [owns1])
          · rw [g6] at q1; rw [g5] at q2
            simp only [upd, e, if_false] at q1 q2; exact .inl ⟨q1, q2⟩
    have hm' : ∀ ks vs, c ≠ .ownm ks vs := fun ks vs e => hm ⟨ks, vs, e⟩
    have e1 : thawC c ns = (c, ns, []) := by unfold thawC; split <;> first | exact absurd rfl (hc' _ _) | exact absurd rfl (hm' _ _) | rfl
    rw [RB1_other hc' hm'] at hR
    rw [e1]
    exact ⟨C, ⟨h, rfl, h.le_grow (Ext.refl _) (fun _ _ h => h), fun b hb _ => hb, List.Sublist.refl _, fun r hr => hdead r hr, fun r _ => rfl, fun _ _ _ h => h, rfl, fun _ _ h1 h2 => .inl ⟨h1, h2⟩⟩, hR⟩

end Go.Ab

namespace Go.Ab
open Go

variable {E : Ent} {n : Sz} {C : Ctx} {st : St} {a : Act} {P : Program}

theorem sets_append (st : St) : ∀ (l m : List (Nat × AO)), st.sets (l ++ m) = (st.sets l).sets m
  | [], _ => rfl
  | (r, o) :: l, m => sets_append (st.set r o) l m

theorem Thawed.refl (h : Inv E n C st a) {ns : List Nat} (hdead : ∀ r ∈ ns, (st.heap r).isDead = true) {os : List Nat} : Thawed E n C st a os ns (ns, []) C :=
  ⟨h, rfl, h.le_grow (Ext.refl _) (fun _ _ h => h), fun _ hb _ => hb, List.Sublist.refl _, hdead, fun _ _ => rfl, fun _ _ _ h => h, rfl, fun _ _ h1 h2 => .inl ⟨h1, h2⟩⟩

theorem Thawed.comp {os1 os2 ns ns1 ns2 : List Nat} {x1 x2 : List (Nat × AO)} {C1 C2 : Ctx} (h1 : Thawed E n C st a os1 ns (ns1, x1) C1) (h2 : Thawed E n C1 (st.sets x1) a os2 ns1 (ns2, x2) C2) :
    Thawed E n C st a (os1 ++ os2) ns (ns2, x1 ++ x2) C2 := by
  refine ⟨by simp only [sets_append]; exact h2.inv, h2.w.trans h1.w, h1.le.trans h2.le, fun b hb hn => ?_, h2.sub.trans h1.sub, fun r hr => by simp only [sets_append]; exact h2.dead r hr, fun r hr => ?_, fun b off hn hx => ?_, h2.G.trans h1.G, fun r L q1 q2 => ?_⟩
  · simp only [List.mem_append, not_or] at hn
    exact h2.free b (h1.free b hb hn.1) hn.2
  · simp only [sets_append]
    exact (h2.other r fun h => hr (h1.sub.subset h)).trans (h1.other r hr)
  · simp only [List.mem_append, not_or] at hn
    exact h1.F b off hn.1 (h2.F b off hn.2 hx)
  · rcases h2.obj r L q1 q2 with ⟨q3, q4⟩ | q3
    · rcases h1.obj r L q3 q4 with q5 | q5
      · exact .inl q5
      · exact .inr (List.mem_append_left _ q5)
    · exact .inr (List.mem_append_right _ q3)

theorem thawL_sound : ∀ (l : List V) (us : List Value) (ns : List Nat) {C : Ctx} {st : St}, Inv E n C st a → l.length = us.length → (∀ (j : Nat) (c : V), l[j]? = some c → RB1 C c (us.getD j undef)) →
    (∀ b ∈ ownsL l us, Free E C b) → (ownsL l us).Nodup → ns.Nodup → (∀ r ∈ ns, (st.heap r).isDead = true) → (ns ≠ [] → ∀ b, E.Mb b) →
    ∃ C', Thawed E n C st a (ownsL l us) ns (thawL l ns).2 C' ∧ (thawL l ns).1.length = us.length ∧ ∀ (j : Nat) (c : V), (thawL l ns).1[j]? = some c → R C' c (us.getD j undef)
  | [], [], ns, C, st, h, _, _, _, _, _, hd, _ => ⟨C, Thawed.refl h hd, rfl, fun j c hj => by simp [thawL] at hj⟩
  | [], _ :: _, _, _, _, _, hl, _, _, _, _, _, _ => by simp at hl
  | _ :: _, [], _, _, _, _, hl, _, _, _, _, _, _ => by simp at hl
  | v :: l, u :: us, ns, C, st, h, hl, hr, hf, hnd, hns, hd, hmb => by
    simp only [ownsL, List.nodup_append] at hnd
    obtain ⟨_, hnd2, hdj⟩ := hnd
    obtain ⟨C1, t1, r1⟩ := thawC_sound h (hr 0 v rfl) (fun b hb => hf b (by simp only [ownsL, List.mem_append]; exact .inl hb)) hns hd (fun _ => hmb)
    have hr' : ∀ (j : Nat) (c : V), l[j]? = some c → RB1 C1 c (us.getD j undef) := fun j c hj => RB1_mono t1.le t1.w (by simpa using hr (j + 1) c (by simpa using hj))
    have hf' : ∀ b ∈ ownsL l us, Free E C1 b := fun b hb => t1.free b (hf b (by simp only [ownsL, List.mem_append]; exact .inr hb)) fun hb' => hdj b hb' b hb rfl
    obtain ⟨C2, t2, l2, r2⟩ := thawL_sound l us (thawC v ns).2.1 t1.inv (by simpa using hl) hr' hf' hnd2 (t1.sub.nodup hns) t1.dead (fun hne => hmb fun e => hne (List.sublist_nil.1 (by rw [← e]; exact t1.sub)))
    refine ⟨C2, t1.comp t2, by simp [thawL, l2], fun j c hj => ?_⟩
    cases j with
    | zero =>
      simp only [thawL, List.getElem?_cons_zero, Option.some.injEq] at hj
      subst hj
      exact r1.mono t2.le
    | succ j => simpa using r2 j c (by simpa [thawL] using hj)

theorem thaw2_agg {cs : List V} {ns : List Nat} : thaw2 (.agg cs) ns = (.agg (thawL cs ns).1, (thawL cs ns).2) := rfl
theorem thaw2_other {v : V} {ns : List Nat} (h : ∀ cs, v ≠ .agg cs) : thaw2 v ns = thawC v ns := by
  unfold thaw2; split <;> first | exact absurd rfl (h _) | rfl
theorem RB2_other {v : V} {u : Value} (h : ∀ cs, v ≠ .agg cs) : RB2 C v u = RB1 C v u := by
  unfold RB2; split <;> first | exact absurd rfl (h _) | rfl
theorem owns2_other {v : V} {u : Value} (h : ∀ cs, v ≠ .agg cs) : owns2 v u = owns1 v u := by
  unfold owns2; split <;> first | exact absurd rfl (h _) | rfl

theorem RB2_mono {C' : Ctx} (hc : Le C C') (hw : C'.w = C.w) {c : V} {u : Value} (h : RB2 C c u) : RB2 C' c u := by
  by_cases hcc : ∃ cs, c = .agg cs
  · obtain ⟨cs, rfl⟩ := hcc
    obtain ⟨us, h1, h2, h3, h4⟩ := h
    exact ⟨us, h1, h2, h3, fun j c hj => RB1_mono hc hw (h4 j c hj)⟩
  · have hne : ∀ cs, c ≠ .agg cs := fun cs e => hcc ⟨cs, e⟩
    rw [RB2_other hne] at h ⊢
    exact RB1_mono hc hw h

theorem thaw2_sound {c : V} {u : Value} {ns : List Nat} (h : Inv E n C st a) (hR : RB2 C c u) (hown : ∀ b ∈ owns2 c u, Free E C b) (hnd : (owns2 c u).Nodup) (hns : ns.Nodup) (hdead : ∀ r ∈ ns, (st.heap r).isDead = true) (hmb : ns ≠ [] → ∀ b, E.Mb b) :
    ∃ C', Thawed E n C st a (owns2 c u) ns (thaw2 c ns).2 C' ∧ R C' (thaw2 c ns).1 u := by
  by_cases hcc : ∃ cs, c = .agg cs
  · obtain ⟨cs, rfl⟩ := hcc
    obtain ⟨us, rfl, h2, h3, h4⟩ := hR
    have e : owns2 (.agg cs) (.agg us.toArray) = ownsL cs us := by simp [owns2]
    rw [e] at hown hnd ⊢
    obtain ⟨C', t, l, r⟩ := thawL_sound cs us ns h h2 h4 hown hnd hns hdead hmb
    exact ⟨C', t, .agg _ us l h3 r⟩
  · have hne : ∀ cs, c ≠ .agg cs := fun cs e => hcc ⟨cs, e⟩
    rw [RB2_other hne] at hR
    rw [owns2_other hne] at hown ⊢
    rw [thaw2_other hne]
    exact thawC_sound h hR hown hns hdead (fun _ => hmb)

theorem thawT_sound : ∀ (l : List V) (us : List Value) (ns : List Nat) {C : Ctx} {st : St}, Inv E n C st a → l.length = us.length → (∀ (j : Nat) (c : V), l[j]? = some c → RB2 C c (us.getD j undef)) →
    (∀ b ∈ ownsT2 l us, Free E C b) → (ownsT2 l us).Nodup → ns.Nodup → (∀ r ∈ ns, (st.heap r).isDead = true) → (ns ≠ [] → ∀ b, E.Mb b) →
    ∃ C', Thawed E n C st a (ownsT2 l us) ns (thawT l ns).2 C' ∧ (thawT l ns).1.length = us.length ∧ ∀ (j : Nat) (c : V), (thawT l ns).1[j]? = some c → R C' c (us.getD j undef)
  | [], [], ns, C, st, h, _, _, _, _, _, hd, _ => ⟨C, Thawed.refl h hd, rfl, fun j c hj => by simp [thawT] at hj⟩
  | [], _ :: _, _, _, _, _, hl, _, _, _, _, _, _ => by simp at hl
  | _ :: _, [], _, _, _, _, hl, _, _, _, _, _, _ => by simp at hl
  | v :: l, u :: us, ns, C, st, h, hl, hr, hf, hnd, hns, hd, hmb => by
    simp only [ownsT2, List.nodup_append] at hnd
    obtain ⟨hnd1, hnd2, hdj⟩ := hnd
    obtain ⟨C1, t1, r1⟩ := thaw2_sound h (hr 0 v rfl) (fun b hb => hf b (by simp only [ownsT2, List.mem_append]; exact .inl hb)) hnd1 hns hd hmb
    have hr' : ∀ (j : Nat) (c : V), l[j]? = some c → RB2 C1 c (us.getD j undef) := fun j c hj => RB2_mono t1.le t1.w (by simpa using hr (j + 1) c (by simpa using hj))
    have hf' : ∀ b ∈ ownsT2 l us, Free E C1 b := fun b hb => t1.free b (hf b (by simp only [ownsT2, List.mem_append]; exact .inr hb)) fun hb' => hdj b hb' b hb rfl
    obtain ⟨C2, t2, l2, r2⟩ := thawT_sound l us (thaw2 v ns).2.1 t1.inv (by simpa using hl) hr' hf' hnd2 (t1.sub.nodup hns) t1.dead (fun hne => hmb fun e => hne (List.sublist_nil.1 (by rw [← e]; exact t1.sub)))
    refine ⟨C2, t1.comp t2, by simp [thawT, l2], fun j c hj => ?_⟩
    cases j with
    | zero =>
      simp only [thawT, List.getElem?_cons_zero, Option.some.injEq] at hj
      subst hj
      exact r1.mono t2.le
    | succ j => simpa using r2 j c (by simpa [thawT] using hj)

theorem thaw_sound {c : V} {u : Value} {ns : List Nat} (h : Inv E n C st a) (hR : RB C c u) (hown : ∀ b ∈ ownsR c u, Free E C b) (hnd : (ownsR c u).Nodup) (hns : ns.Nodup) (hdead : ∀ r ∈ ns, (st.heap r).isDead = true) (hmb : ns ≠ [] → ∀ b, E.Mb b) :
    ∃ C', Thawed E n C st a (ownsR c u) ns (thaw c ns).2 C' ∧ R C' (thaw c ns).1 u := by
  by_cases hcc : ∃ vs, c = .tup vs
  · obtain ⟨vs, rfl⟩ := hcc
    obtain ⟨us, rfl, h2, h4⟩ := hR
    have e : ownsR (.tup vs) (.tuple us.toArray) = ownsT2 vs us := by simp [ownsR]
    rw [e] at hown hnd ⊢
    obtain ⟨C', t, l, r⟩ := thawT_sound vs us ns h h2 h4 hown hnd hns hdead hmb
    exact ⟨C', t, .tup _ us l r⟩
  · have hne : ∀ vs, c ≠ .tup vs := fun vs e => hcc ⟨vs, e⟩
    have e1 : RB C c u = RB2 C c u := by unfold RB; split <;> first | exact absurd rfl (hne _) | rfl
    have e2 : ownsR c u = owns2 c u := by unfold ownsR; split <;> first | exact absurd rfl (hne _) | rfl
    have e3 : thaw c ns = thaw2 c ns := by unfold thaw; split <;> first | exact absurd rfl (hne _) | rfl
    rw [e1] at hR
    rw [e2] at hown hnd ⊢
    rw [e3]
    exact thaw2_sound h hR hown hnd hns hdead hmb


theorem okOp_alloc {z : List V} {r : Nat} {objs : List Nat} {op : Op} (h : okOp P (.alloc z r objs) op = true) :
    ∃ t i v, op = .alloc t ∧ P.info? t = some i ∧ i.zero = some v ∧ zOwn z v.cells.toList = true ∧ (∀ u ∈ v.cells.toList, u.oneCell' = true) := by
  cases op with
  | alloc t =>
    simp only [okOp] at h
    obtain ⟨i, v, hi, hv, hf⟩ := zeroIs_spec h
    simp only [Bool.and_eq_true] at hf
    exact ⟨t, i, v, rfl, hi, hv, hf.1, fun u hu => Array.all_eq_true_iff_forall_mem.1 hf.2 u (by simpa using hu)⟩
  | _ => simp [okOp] at h

theorem zOwn_R : ∀ {l : List V} {m : List Value}, zOwn l m = true → l.length = m.length ∧ ownsL l m = [] ∧ ∀ (C : Ctx) (j : Nat) (c : V), l[j]? = some c → RB1 C c (m.getD j undef)
  | [], [], _ => ⟨rfl, rfl, fun _ j c hj => by simp at hj⟩
  | [], _ :: _, h => by simp [zOwn] at h
  | _ :: _, [], h => by simp [zOwn] at h
  | v :: l, u :: m, h => by
    unfold zOwn at h
    split at h
    · rename_i heq; cases heq
    · rename_i s l' m' e1 e2
      cases e1; cases e2
      obtain ⟨a1, a2, a3⟩ := zOwn_R h
      refine ⟨by simp [a1], by simp [ownsL, owns1, a2], fun C j c hj => ?_⟩
      cases j with
      | zero => simp at hj; subst hj; exact .inl ⟨rfl, rfl⟩
      | succ j => simpa using a3 C j c (by simpa using hj)
    · rename_i v' l' u' m' hne e1 e2
      cases e1; cases e2
      simp only [Bool.and_eq_true] at h
      obtain ⟨h1, h2⟩ := h
      obtain ⟨a1, a2, a3⟩ := zOwn_R h2
      have hno : ∀ s rows, v ≠ .own s rows := fun s rows e => by subst e; simp [constOk] at h1
      refine ⟨by simp [a1], ?_, fun C j c hj => ?_⟩
      · have : owns1 v u = [] := by unfold owns1; split <;> first | exact absurd rfl (hno _ _) | (simp [constOk] at h1; done) | rfl
        simp [ownsL, this, a2]
      · cases j with
        | zero =>
          simp at hj; subst hj
          rw [RB1_other hno fun ks vs e => by subst e; simp [constOk] at h1]; exact constOk_R h1 C
        | succ j => simpa using a3 C j c (by simpa using hj)
    · cases h

theorem snd_alloc {z : List V} {r : Nat} {objs : List Nat} : Snd P (.alloc z r objs) := by
  intro E n C st a o d K next Q hinv hok hd h hn hmf
  obtain ⟨t, i, v, hop, hi, hv, hz, hz1⟩ := okOp_alloc hok
  obtain ⟨z1, z2, z3⟩ := zOwn_R hz
  simp only [eff] at h
  obtain ⟨hnd, hdead, hK⟩ := h
  replace hnd := nodupB_iff hnd
  have hdead' : ∀ r' ∈ r :: objs, (st.heap r').isDead = true := fun r' hr' => List.all_eq_true.1 hdead r' hr'
  obtain ⟨hr, hno⟩ := List.nodup_cons.1 hnd
  obtain ⟨C', t1, l1, r1⟩ := thawL_sound z v.cells.toList objs hinv z1 (z3 C) (by rw [z2]; simp) (by rw [z2]; simp) hno (fun r' hr' => hdead' r' (by simp [hr'])) (fun hne => hinv.mball (by
    cases hnm : n.nomap with
    | false => rfl
    | true => exact absurd (List.isEmpty_iff.1 (hmf hnm)) hne))
  have hrd : ((st.sets (thawL z objs).2.2).heap r).isDead = true := by rw [t1.other r hr]; exact hdead' r (by simp)
  have hcur : (C'.w.alloc (.cells v.cells t)).heap[C'.w.heap.size]? = some (.cells v.cells t (0, 0)) := heap_alloc_new _ _
  obtain ⟨C2, h1, h2, h3, _⟩ := t1.inv.newBox (Ext.alloc C'.w (.cells v.cells t)) (Nat.le_refl _) hcur hrd (cs := (thawL z objs).1) (fun j c hj => by
    have hlt : j < v.cells.size := by have := (List.getElem?_eq_some_iff.1 hj).1; rw [l1] at this; simpa using this
    have e : v.cells.getD j undef = v.cells[j] := by simp [hlt]
    have e2 : v.cells.toList.getD j undef = v.cells[j] := by simp [hlt]
    have := r1 j c hj
    rw [e2] at this
    rw [e]
    exact ⟨by simp [hlt], hz1 _ (by simp), this⟩)
  refine wp_value (u := .pointer (some ⟨C'.w.heap.size, 0, none⟩)) (w' := C2.w) ?_ (hn C2 _ _ (h1.put hd h3) hK)
  rw [h2, t1.w]
  simp [execOp, hop, Instr.alloc, zeroValue, typeInfo, hi, hv, newVar, newRow]

end Go.Ab

namespace Go.Ab
open Go

variable {E : Ent} {n : Sz} {C : Ctx} {st : St} {a : Act} {P : Program}

structure Src (P : Program) (C : Ctx) (s : Nat) (ys : List (List V)) (u : Value) (news : List Value) : Prop where
  slice : ∃ ao cap, u = .slice ao ys.length cap
  len : news.length = ys.length * s
  width : ∀ r ∈ ys, r.length = s
  cells : ∀ i j c, at2 ys i j = some c → ∃ x, news[i * s + j]? = some x ∧ c.closed = true ∧ R C c x
  one : ∀ x ∈ news, x.oneCell' = true
  run : ∀ w', w'.heap = C.w.heap → (Builtin.firstCells s ys.length u).run P w' = .ok news.toArray w'

theorem at2_of {ys : List (List V)} {s p : Nat} (hw : ∀ r ∈ ys, r.length = s) (hs : 0 < s) (hp : p < ys.length * s) : ∃ c, at2 ys (p / s) (p % s) = some c := by
  have h1 : p / s < ys.length := (Nat.div_lt_iff_lt_mul hs).2 hp
  have h2 : p % s < ys[p / s].length := by rw [hw _ (List.getElem_mem h1)]; exact Nat.mod_lt _ hs
  exact ⟨ys[p / s][p % s], by unfold at2; rw [List.getElem?_eq_getElem h1]; exact List.getElem?_eq_getElem h2⟩

theorem src_rows {ys : List (List V)} {s b base cap : Nat} (hs : 0 < s) (hw : ∀ r ∈ ys, r.length = s) (g : Nat → Nat → Value)
    (h : ∀ i j c, at2 ys i j = some c → C.w.cell? ⟨b, base + i * s + j, none⟩ = some (g i j) ∧ (g i j).oneCell' = true ∧ c.closed = true ∧ R C c (g i j)) :
    Src P C s ys (.slice (some ⟨b, base, none⟩) ys.length cap) ((List.range (ys.length * s)).map fun p => g (p / s) (p % s)) := by
  refine ⟨⟨_, _, rfl⟩, by simp, hw, fun i j c hij => ?_, fun x hx => ?_, fun w' hw' => ?_⟩
  · obtain ⟨hi, hc⟩ := at2_lt hij
    have hj : j < s := by rw [← hw _ (List.getElem_mem hi)]; exact (List.getElem?_eq_some_iff.1 hc).1
    obtain ⟨d1, d2⟩ := div_of (i := i) hj
    have hlt : i * s + j < ys.length * s := by
      have : i * s + s ≤ ys.length * s := by rw [← Nat.succ_mul]; exact Nat.mul_le_mul_right _ hi
      omega
    exact ⟨g i j, by simp [hlt, d1, d2], (h i j c hij).2.2.1, (h i j c hij).2.2.2⟩
  · simp only [List.mem_map, List.mem_range] at hx
    obtain ⟨p, hp, rfl⟩ := hx
    obtain ⟨c, hc⟩ := at2_of hw hs hp
    exact (h _ _ c hc).2.1
  · refine run_firstCells_some w' s ys.length ⟨b, base, none⟩ ys.length cap _ (by simp) fun p v hv => ?_
    simp only [List.getElem?_map, Option.map_eq_some_iff] at hv
    obtain ⟨q, hq, rfl⟩ := hv
    obtain ⟨hlt, rfl⟩ := List.getElem?_eq_some_iff.1 hq
    simp only [List.length_range] at hlt
    simp only [List.getElem_range]
    obtain ⟨c, hc⟩ := at2_of hw hs hlt
    have := (h _ _ c hc).1
    rw [addr_add]
    have e : base + p / s * s + p % s = base + p := by
      have := Nat.div_add_mod p s
      rw [Nat.mul_comm] at this
      omega
    rw [e] at this
    rw [← this]
    exact World.cell?_of_block (a := ⟨b, base + p, none⟩) (by rw [hw'])

theorem src_nil {s : Nat} {ao : Option Addr} {cap : Nat} : Src P C s [] (.slice ao 0 cap) [] := by
  refine ⟨⟨_, _, rfl⟩, by simp, by simp, fun i j c hij => by simp [at2] at hij, by simp, fun w' _ => ?_⟩
  cases ao with
  | none => simp [Builtin.firstCells]
  | some b => simp [Builtin.firstCells, loadCells, loadCellsFrom]

theorem at2_seg {rs : List (List V)} {j m i k : Nat} {c : V} (h : at2 ((rs.drop j).take m) i k = some c) : at2 rs (j + i) k = some c ∧ i < m := by
  unfold at2 at h ⊢
  rw [List.getElem?_take] at h
  split at h
  · rename_i hi; rw [List.getElem?_drop] at h; exact ⟨h, hi⟩
  · cases h

theorem src_of (hinv : Inv E n C st a) {s : Nat} (h0 : 0 < s) {v : V} {u : Value} (hR : R C v u) {ys : List (List V)} (hs : srcRows st s v = some ys) : ∃ news, Src P C s ys u news := by
  unfold srcRows at hs
  split at hs
  · rename_i f s' ys'
    split at hs
    · rename_i e; subst e; cases hs
      cases hR with
      | slNil => exact ⟨_, src_nil⟩
      | slZ => exact ⟨_, src_nil⟩
      | sl _ _ _ b base cap g hc hm hu hfr hcell hcl hr => exact ⟨_, src_rows h0 hu g fun i j c hij => ⟨(hcell i j c hij).1, (hcell i j c hij).2.2, hcl i j c hij, hr i j c hij⟩⟩
    · cases hs
  · cases hs
    cases hR with
    | nils => exact ⟨_, src_nil⟩
    | nilsSome => exact ⟨_, src_nil⟩
  · rename_i r j m
    split at hs
    · rename_i s' rs hh
      split at hs
      · rename_i e; subst e; cases hs
        rw [← hinv.heap] at hh
        cases hR with
        | sref _ _ _ s2 rs2 L g1 g2 g3 =>
          rw [hh] at g1; cases g1
          have ho := hinv.objs r
          unfold ObjOk at ho
          rw [hh] at ho
          rcases ho with ⟨_, ho⟩ | ⟨L', hl', q0, q1, q2, q3, ⟨cur, e, g, hb, hcs, hc⟩, _⟩
          · rw [g2] at ho; cases ho
          rw [g2] at hl'; cases hl'
          have hlen : ((rs.drop j).take m).length = m := by simp; omega
          have hsub : ∀ r ∈ (rs.drop j).take m, r.length = s' := fun r hr => q3 r (List.drop_subset _ _ (List.take_subset _ _ hr))
          have := src_rows (P := P) (C := C) (b := L.blk) (base := j * s') (cap := L.cap - j) h0 hsub (fun i k => g (j + i) k) (fun i k c hij => by
            obtain ⟨h1, _⟩ := at2_seg hij
            obtain ⟨a1, a2, a3, a4⟩ := hc _ _ _ h1
            refine ⟨?_, a2, a3, a4⟩
            rw [cell_of_row _ _ _ _ _ _ hb, ← a1]
            congr 1
            rw [Nat.add_mul])
          rw [hlen] at this
          exact ⟨_, this⟩
        | srefNil _ _ g1 g2 =>
          rw [hh] at g1; cases g1
          exact ⟨_, by simpa using (src_nil (P := P) (C := C) (s := s') (ao := none) (cap := 0))⟩
        | srefZ _ _ s2 rs2 ab ao g1 g2 => exact ⟨_, by simpa using (src_nil (P := P) (C := C) (s := s') (ao := some ⟨ab, ao, none⟩) (cap := 0))⟩
      · cases hs
    · cases hs
  · cases hs

section runs
variable (w : World) {t t' ty e e2 s bytes : Nat} {i : TypeInfo} {z : Value} (ht : P.underlying t = some (.slice e)) (ht' : P.underlying t' = some (.slice e2)) (hi : P.info? e = some i)
  (hs : i.size = s) (hb : i.bytes = bytes) (hz : i.zero = some z)
include ht ht' hi hs

theorem run_app_zero {ao ao' : Option Addr} {cap : Nat} {news : List Value} (hn : news = []) (hx : (Builtin.firstCells s 0 (.slice ao' 0 cap)).run P w = .ok news.toArray w) :
    (Builtin.append_ #[t, t'] ty #[.slice ao 0 0, .slice ao' 0 cap]).run P w = .ok (.slice ao 0 0) w := by
  subst hn
  cases ao <;> simp [Builtin.append_, run_underlying ht, run_underlying ht', sizeOf, typeInfo, hi, hs, Builtin.lenOf, hx, storeCells]

theorem run_app_room {b k cap m : Nat} {cur : Array Value} {e' : TypeId} {ao' : Option Addr} {cap' : Nat} {news : List Value} (hg : w.heap[b]? = some (.cells cur e' (0, 0))) (hcs : cur.size = cap * s)
    (hroom : k + m ≤ cap) (hl : news.length = m * s) (h1 : ∀ x ∈ news, x.oneCell' = true) (hx : (Builtin.firstCells s m (.slice ao' m cap')).run P w = .ok news.toArray w) :
    (Builtin.append_ #[t, t'] ty #[.slice (some ⟨b, 0, none⟩) k cap, .slice ao' m cap']).run P w =
      .ok (.slice (some ⟨b, 0, none⟩) (k + m) cap) (w.setRow b (cur.toList.take (k * s) ++ news ++ cur.toList.drop (k * s + news.length)).toArray) := by
  have hfit : k * s + news.length ≤ cur.size := by rw [hl, hcs, ← Nat.add_mul]; exact Nat.mul_le_mul_right _ hroom
  have hst := run_storeCells_at P b (k * s) e' news 0 cur w hg (by simpa using hfit) h1
  simp only [Nat.add_zero] at hst
  simp [Builtin.append_, run_underlying ht, run_underlying ht', sizeOf, typeInfo, hi, hs, Builtin.lenOf, hroom, hx, addr_add, hst]

include hb hz
theorem run_app_grow {ao : Option Addr} {k cap m : Nat} {ao' : Option Addr} {cap' : Nat} {olds news : List Value} (hgrow : cap < k + m) (h63 : k + m ≤ 140737488355328) (h47 : (k + m) * bytes ≤ 140737488355328) (hb0 : 0 < bytes)
    (ho : (Builtin.firstCells s k (.slice ao k cap)).run P w.drew = .ok olds.toArray w.drew) (hx : (Builtin.firstCells s m (.slice ao' m cap')).run P w.drew = .ok news.toArray w.drew) :
    (Builtin.append_ #[t, t'] ty #[.slice ao k cap, .slice ao' m cap']).run P w =
      .ok (.slice (some ⟨w.heap.size, 0, none⟩) (k + m) (grownCap w (k + m) cap e)) (w.drew.alloc (.cells (olds.toArray ++ news.toArray ++ Builtin.zeroCells z.cells (grownCap w (k + m) cap e - (k + m))) e)) := by
  have hn : ¬ (k + m ≤ cap) := by omega
  have h63' : ¬ (9223372036854775807 < ((k : Int) + (m : Int))) := by omega
  have h48 := growslice_fits hgrow h47
  have h48' : ¬ (281474976710656 < Builtin.nextslicecap (k + m) cap * bytes) := by omega
  have hb1 : bytes ≠ 0 := by omega
  simp [Builtin.append_, run_underlying ht, run_underlying ht', sizeOf, typeInfo, zeroValue, hi, hs, hb, hz, Builtin.lenOf, hn, hb1, h48', Question.forced, ho, hx, newRow, grownCap]
  congr 2
  apply Array.ext'
  simp [List.append_assoc]

end runs

theorem Src.mono {C' : Ctx} {s : Nat} {ys : List (List V)} {u : Value} {news : List Value} (h : Src P C s ys u news) (hw : C'.w = C.w) (hF : ∀ b off, C.F b off → C'.F b off) (hG : ∀ b, C.G b → C'.G b) : Src P C' s ys u news :=
  ⟨h.slice, h.len, h.width, fun i j c hij => let ⟨x, h1, h2, h3⟩ := h.cells i j c hij; ⟨x, h1, h2, h3.of_closed (fun b off hf => ⟨hF b off hf, by rw [hw]⟩) hG h2⟩, h.one, fun w' hw' => h.run w' (by rw [hw', hw])⟩

theorem Src.nil {s : Nat} {u : Value} {news : List Value} (h : Src P C s [] u news) : news = [] := List.eq_nil_of_length_eq_zero (by simpa using h.len)

theorem Inv.mkSlZ (h : Inv E n C st a) {s : Nat} {mode d : Option Nat} {K : St → Prop} (ao : Option Addr) (hao : ∀ x, ao = some x → x.spot = none) (hk : newSl s [] mode d st K) :
    ∃ C' st' v, Inv E n C' st' a ∧ C'.w = C.w ∧ R C' v (.slice ao 0 0) ∧ K (st'.put d v) := by
  cases mode with
  | none =>
    refine ⟨C, st, _, h, rfl, ?_, hk⟩
    cases ao with
    | none => exact .slNil true s
    | some ad =>
      obtain ⟨b, off, spot⟩ := ad
      have := hao _ rfl
      simp only at this
      subst this
      exact .sl true s [] b off 0 (fun _ _ => undef) (by simp) (by simp [maxLen]) (by simp) (by simp) (fun i j c hij => by simp [at2] at hij) (fun i j c hij => by simp [at2] at hij) (fun i j c hij => by simp [at2] at hij)
  | some r =>
    obtain ⟨h0, hk⟩ := hk
    obtain ⟨C', h1, h2, h3, _⟩ := h.newNil (s := s) h0
    refine ⟨C', _, _, h1, h2, ?_, hk⟩
    cases ao with
    | none => exact h3
    | some ad =>
      have hh : C'.heap r = .rows s [] := by rw [h1.heap]; simp [St.set, upd]
      obtain ⟨b, off, spot⟩ := ad
      have := hao _ rfl
      simp only at this
      subst this
      exact .srefZ r 0 s [] b off hh (Nat.zero_le _)

theorem at2_append {rs ys : List (List V)} {i j : Nat} {c : V} (h : at2 (rs ++ ys) i j = some c) : (i < rs.length ∧ at2 rs i j = some c) ∨ (rs.length ≤ i ∧ at2 ys (i - rs.length) j = some c) := by
  unfold at2 at h ⊢
  by_cases hi : i < rs.length
  · rw [List.getElem?_append_left hi] at h; exact .inl ⟨hi, h⟩
  · rw [List.getElem?_append_right (by omega)] at h; exact .inr ⟨by omega, h⟩

theorem Src.cat {s : Nat} {rs ys : List (List V)} {u v : Value} {olds news : List Value} (h : Src P C s rs u olds) (h' : Src P C s ys v news) {i j : Nat} {c : V} (hij : at2 (rs ++ ys) i j = some c) :
    ∃ x, (olds ++ news)[i * s + j]? = some x ∧ x.oneCell' = true ∧ c.closed = true ∧ R C c x := by
  rcases at2_append hij with ⟨hi, hc⟩ | ⟨hi, hc⟩
  · obtain ⟨x, h1, h2, h3⟩ := h.cells i j c hc
    have hlt := (List.getElem?_eq_some_iff.1 h1).1
    exact ⟨x, by rw [List.getElem?_append_left hlt]; exact h1, h.one x (List.mem_of_getElem? h1), h2, h3⟩
  · obtain ⟨x, h1, h2, h3⟩ := h'.cells _ j c hc
    have e : i * s + j = olds.length + ((i - rs.length) * s + j) := by
      rw [h.len, ← Nat.add_assoc, ← Nat.add_mul]
      congr 2; omega
    exact ⟨x, by rw [e, List.getElem?_append_right (by omega)]; simpa using h1, h'.one x (List.mem_of_getElem? h1), h2, h3⟩

theorem Inv.setFree (h : Inv E n C st a) {b : Nat} {cur cur' : Array Value} {e : TypeId} (hf : Free E C b) (hb : C.w.heap[b]? = some (.cells cur e (0, 0))) (hs : cur'.size = cur.size) :
    Inv E n { C with w := C.w.setRow b cur' } st a ∧ Le C { C with w := C.w.setRow b cur' } := by
  have hblk : (C.w.setRow b cur').heap[b]? = some (.cells cur' e (0, 0)) := setRow_heap C.w b cur cur' e _ hb
  have hle : Le C { C with w := C.w.setRow b cur' } :=
    ⟨fun b' off hx => ⟨hx, World.cell?_of_block (a := ⟨b', off, none⟩) (setRow_ext_ne fun e => hf.F off (e ▸ hx))⟩, fun _ h => h, fun _ cs _ h => ⟨⟨cs, h⟩, rfl⟩, fun _ _ rs _ h => ⟨⟨rs, h, rfl⟩, rfl⟩, fun _ ks vs _ h => ⟨⟨ks, vs, h⟩, rfl⟩⟩
  have hh : Hist E { C with w := C.w.setRow b cur' } a := h.hist hle.F fun b' o ho hb' => (setRow_ext_ne fun e => by subst e; rw [hb] at hb'; cases hb'; cases ho).trans hb'
  exact ⟨{ heap := h.heap, env := fun t => (h.env t).mono hle
           objs := fun r => (h.objs r).mono hle ⟨fun b' _ _ hF _ => ⟨rfl, setRow_ext_ne fun e => hf.F 0 (e ▸ hF), fun _ h => h⟩⟩ rfl rfl fun L hl ha => ⟨setRow_ext_ne (hf.obj r L hl ha), fun _ h => h, fun h => h⟩
           inj := h.inj
           fin := fun b' off hx => by simp only; rw [size_setRow]; exact h.fin b' off hx
           gnew := h.gnew, gsub := h.gsub, par := h.par, fnew := h.fnew
           frame := ⟨h.frame.os, h.frame.output, h.frame.tape, by simp only; rw [size_setRow]; exact h.frame.size, fun b' hlt => by
             have hsame := h.frame.same b' hlt
             by_cases hbb : b' = b
             · subst hbb
               simp only
               rw [hblk]
               rw [hb] at hsame
               cases ho : E.w0.heap[b']? with
               | none => rw [ho] at hsame; simp [sameBut] at hsame
               | some o =>
                 rw [ho] at hsame
                 cases o with
                 | cells c e1 fr =>
                   simp only [sameBut] at hsame ⊢
                   obtain ⟨s1, s2, s3, s4⟩ := hsame
                   refine ⟨s1, s2, hs.trans s3, fun off hw => ?_⟩
                   rcases hf.W off with h1 | h1
                   · omega
                   · exact absurd h1 hw
                 | _ => simp [sameBut] at hsame
             · simp only
               rw [setRow_ext_ne hbb]; exact hsame⟩
           marks := hh.marks, mnd := hh.mnd, fkeep := hh.fkeep, stay := hh.stay, wsz := hh.wsz, mball := h.mball, size := h.size }, hle⟩

theorem okOp_app {s bytes : Nat} {x y : X} {mode : Option Nat} {op : Op} (h : okOp P (.app s bytes x y mode) op = true) :
    ∃ c x' y' t t' e e2 i z, op = .call c ∧ c.callee = .builtin .append ∧ c.args = #[x', y'] ∧ c.argTypes = #[t, t'] ∧ P.underlying t = some (.slice e) ∧ P.underlying t' = some (.slice e2) ∧ P.info? e = some i ∧ i.size = s ∧ i.bytes = bytes ∧ 0 < bytes ∧ 0 < s ∧
      i.zero = some z ∧ z.cells.size = s ∧ okX x x' = true ∧ okX y y' = true := by
  cases op with
  | call c =>
    simp only [okOp] at h
    split at h
    · rename_i x' y' t t' hc ha ht
      simp only [Bool.and_eq_true] at h
      obtain ⟨⟨⟨h1, h2⟩, h3⟩, h4⟩ := h
      split at h1
      · rename_i e hu
        split at h2
        · rename_i e2 hu2
          cases hi : P.info? e with
          | none => simp [hi] at h1
          | some i =>
            simp only [hi, Option.any_some, Bool.and_eq_true, beq_iff_eq, decide_eq_true_eq] at h1
            obtain ⟨⟨⟨⟨q1, q2⟩, q3⟩, q4⟩, q5⟩ := h1
            split at q5
            · rename_i z hz
              exact ⟨c, x', y', t, t', e, e2, i, z, rfl, hc, by rw [← ha], by rw [← ht], hu, hu2, hi, q1, q2, q3, q4, hz, by simpa using q5, h3, h4⟩
            · cases q5
        · cases h2
      · cases h1
    · cases h
  | _ => simp [okOp] at h

theorem snd_app {s bytes : Nat} {x y : X} {mode : Option Nat} : Snd P (.app s bytes x y mode) := by
  intro E n C st a o d K next Q hinv hok hd h hn _
  obtain ⟨c, x', y', t, t', e, e2, i, z, hop, hc, ha, hty, ht, ht', hi, hs, hb, hb0, h0, hz, hzs, hx, hy⟩ := okOp_app hok
  have hX := hinv.ev hx
  have hY := hinv.ev hy
  have hexec : ∀ v w', (Builtin.append_ #[t, t'] o.type #[a.eval x', a.eval y']).run P C.w = .ok v w' → (execOp a.eval o).run P C.w = .ok (.value v) w' := by
    intro v w' hr
    simp [execOp, hop, resolve, hc, ha, hty, invoke, builtin, hr]
  -- a base without room
  have zero : ∀ (C1 : Ctx) (st1 : St) (ys : List (List V)) (news : List Value) (ao : Option Addr), Inv E n C1 st1 a → C1.w = C.w → a.eval x' = .slice ao 0 0 → (∀ x, ao = some x → x.spot = none) → Src P C1 s ys (a.eval y') news →
      ys.length * bytes ≤ 140737488355328 → newSl s ys mode d st1 K → o.wp P a C.w next Q := by
    intro C1 st1 ys news ao h1 hw hu hao hsrc hbd hk
    obtain ⟨ao', cap', hu'⟩ := hsrc.slice
    rw [hu, hu'] at hexec
    rw [hu'] at hsrc
    by_cases hm : ys.length = 0
    · have : ys = [] := List.eq_nil_of_length_eq_zero hm
      subst this
      obtain ⟨C', st', v, g1, g2, g3, g4⟩ := h1.mkSlZ ao hao hk
      have hrun := run_app_zero C.w (ty := o.type) ht ht' hi hs (ao := ao) (ao' := ao') (cap := cap') hsrc.nil (hsrc.run C.w (by rw [hw]))
      rw [← hw, ← g2] at hrun
      have := hexec _ _ (by rw [← hw, ← g2]; exact hrun)
      exact wp_value this (hn C' _ _ (g1.put hd g3) g4)
    · have hy63 : ys.length ≤ 140737488355328 := Nat.le_trans (Nat.le_mul_of_pos_right _ hb0) hbd
      have hrun := run_app_grow C.w (ty := o.type) ht ht' hi hs hb hz (ao := ao) (k := 0) (cap := 0) (m := ys.length) (ao' := ao') (cap' := cap') (olds := []) (by omega) (by omega) (by simpa using hbd) hb0
        ((src_nil (P := P) (C := C1) (s := s) (ao := ao) (cap := 0)).run _ (by rw [hw]; rfl)) (hsrc.run _ (by rw [hw]; rfl))
      simp only [Nat.zero_add] at hrun
      have hge := grownCap_ge C.w ys.length 0 e
      have hcm := grownCap_le_maxLen C.w ys.length 0 e (by simp [maxLen]; omega)
      have hnew : NewRow C1 (C.w.drew.alloc (.cells (#[] ++ news.toArray ++ Builtin.zeroCells z.cells (grownCap C.w ys.length 0 e - ys.length)) e)) C.w.heap.size (grownCap C.w ys.length 0 e) s ys := by
        refine ⟨by rw [hw]; exact (Ext.drew _).trans (Ext.alloc _ _), by rw [hw]; exact Nat.le_refl _, hge, hcm, hsrc.width, _, e, fun i j => news.getD (i * s + j) undef, heap_alloc_new C.w.drew _, ?_, fun i j c hij => ?_⟩
        · simp only [Array.size_append, List.size_toArray, size_zeroCells, hzs, hsrc.len, List.size_toArray, List.length_nil, Nat.zero_add]
          rw [← Nat.add_mul]; congr 1; omega
        · obtain ⟨q, q1, q2, q3⟩ := hsrc.cells i j c hij
          have hlt := (List.getElem?_eq_some_iff.1 q1).1
          have eq : news.getD (i * s + j) undef = q := by simp [List.getD, q1]
          dsimp only
          rw [eq]
          refine ⟨?_, hsrc.one q (List.mem_of_getElem? q1), q2, q3⟩
          rw [Array.getElem?_append_left (by simpa using hlt), Array.getElem?_append_right (by simp)]
          simpa using q1
      obtain ⟨C', st', v, g1, g2, g3, g4⟩ := h1.mkSl hnew hk
      have := hexec _ _ hrun
      rw [show (List.toArray ([] : List Value)) = #[] from rfl, ← g2] at this
      exact wp_value this (hn C' _ _ (g1.put hd g3) g4)
  -- a base in a block
  have blk : ∀ (C1 : Ctx) (st1 : St) (rs ys : List (List V)) (news : List Value) (b cap : Nat), Inv E n C1 st1 a → C1.w = C.w → a.eval x' = .slice (some ⟨b, 0, none⟩) rs.length cap → Free E C1 b → OwnAt C1 b cap s rs → Src P C1 s ys (a.eval y') news →
      (rs.length + ys.length) * bytes ≤ 140737488355328 → newSl s (rs ++ ys) mode d st1 K → o.wp P a C.w next Q := by
    intro C1 st1 rs ys news b cap h1 hw hu hf hown hsrc hbd hk
    obtain ⟨ao', cap', hu'⟩ := hsrc.slice
    rw [hu, hu'] at hexec
    rw [hu'] at hsrc
    obtain ⟨cur, e', g, hcur, hcs, hcell⟩ := hown.cells
    have hold : Src P C1 s rs (.slice (some ⟨b, 0, none⟩) rs.length cap) _ := src_rows (P := P) (C := C1) (b := b) (base := 0) (cap := cap) h0 hown.width g (fun i j c hij => by
      obtain ⟨a1, a2, a3, a4⟩ := hcell i j c hij
      exact ⟨by rw [Nat.zero_add, cell_of_row _ _ _ _ _ _ hcur]; exact a1, a2, a3, a4⟩)
    generalize ((List.range (rs.length * s)).map fun p => g (p / s) (p % s)) = olds at hold
    by_cases hroom : rs.length + ys.length ≤ cap
    · rw [hw] at hcur
      have hrun := run_app_room C.w (ty := o.type) ht ht' hi hs hcur hcs hroom hsrc.len hsrc.one (hsrc.run C.w (by rw [hw]))
      have hfit : rs.length * s + news.length ≤ cur.size := by rw [hsrc.len, hcs, ← Nat.add_mul]; exact Nat.mul_le_mul_right _ hroom
      obtain ⟨sp1, sp2⟩ := splice_get (vs := news) (cur := cur) (o := rs.length * s) rfl hfit
      generalize (cur.toList.take (rs.length * s) ++ news ++ cur.toList.drop (rs.length * s + news.length)).toArray = cur' at hrun sp1 sp2
      obtain ⟨h2, l2⟩ := h1.setFree hf (by rw [hw]; exact hcur) sp1
      have hf2 : Free E { C1 with w := C1.w.setRow b cur' } b := ⟨hf.F, hf.G, hf.W, hf.obj⟩
      have hown2 : OwnAt { C1 with w := C1.w.setRow b cur' } b cap s (rs ++ ys) := by
        refine ⟨by simpa using hroom, hown.max, fun r hr => ?_, cur', e', fun i j => cur'.getD (i * s + j) undef, by simp only; rw [hw]; exact setRow_heap _ _ _ _ _ _ hcur, sp1.trans hcs, fun i j c hij => ?_⟩
        · rcases List.mem_append.1 hr with h | h
          · exact hown.width r h
          · exact hsrc.width r h
        · have main : ∃ q, cur'[i * s + j]? = some q ∧ q.oneCell' = true ∧ c.closed = true ∧ R C1 c q := by
            rcases at2_append hij with ⟨hi', hc'⟩ | ⟨hi', hc'⟩
            · obtain ⟨a1, a2, a3, a4⟩ := hcell i j c hc'
              refine ⟨_, ?_, a2, a3, a4⟩
              rw [sp2, if_neg]
              · exact a1
              · rintro ⟨q1, _⟩
                obtain ⟨_, hjc⟩ := at2_lt hc'
                have hj : j < s := by rw [← hown.width _ (List.getElem_mem hi')]; exact (List.getElem?_eq_some_iff.1 hjc).1
                have : i * s + s ≤ rs.length * s := by rw [← Nat.succ_mul]; exact Nat.mul_le_mul_right _ hi'
                omega
            · obtain ⟨q, q1, q2, q3⟩ := hsrc.cells _ j c hc'
              have hlt := (List.getElem?_eq_some_iff.1 q1).1
              have e : i * s + j = rs.length * s + ((i - rs.length) * s + j) := by rw [← Nat.add_assoc, ← Nat.add_mul]; congr 2; omega
              refine ⟨q, ?_, hsrc.one q (List.mem_of_getElem? q1), q2, q3⟩
              rw [sp2, if_pos (by omega), e, Nat.add_sub_cancel_left]
              exact q1
          obtain ⟨q, m1, m2, m3, m4⟩ := main
          have ee : cur'.getD (i * s + j) undef = q := by rw [Array.getD_eq_getD_getElem?, m1]; rfl
          dsimp only
          rw [ee]
          exact ⟨m1, m2, m3, m4.mono l2⟩
      obtain ⟨C', st', v, g1, g2, g3, g4⟩ := h2.take hf2 hown2 hk
      simp only [List.length_append] at g3
      have := hexec _ _ hrun
      simp only at g2
      rw [← hw, ← g2] at this
      rw [← hw]
      exact wp_value this (hn C' _ _ (g1.put hd g3) g4)
    · have hy63 : rs.length + ys.length ≤ 140737488355328 := Nat.le_trans (Nat.le_mul_of_pos_right _ hb0) hbd
      have hrun := run_app_grow C.w (ty := o.type) ht ht' hi hs hb hz (ao := some ⟨b, 0, none⟩) (k := rs.length) (cap := cap) (m := ys.length) (ao' := ao') (cap' := cap') (by omega) hy63 hbd hb0
        (hold.run _ (by rw [hw]; rfl)) (hsrc.run _ (by rw [hw]; rfl))
      have hge := grownCap_ge C.w (rs.length + ys.length) cap e
      have hcm := grownCap_le_maxLen C.w (rs.length + ys.length) cap e (by simp [maxLen]; omega)
      have hnew : NewRow C1 (C.w.drew.alloc (.cells (olds.toArray ++ news.toArray ++ Builtin.zeroCells z.cells (grownCap C.w (rs.length + ys.length) cap e - (rs.length + ys.length))) e)) C.w.heap.size (grownCap C.w (rs.length + ys.length) cap e) s (rs ++ ys) := by
        refine ⟨by rw [hw]; exact (Ext.drew _).trans (Ext.alloc _ _), by rw [hw]; exact Nat.le_refl _, by simpa using hge, hcm, fun r hr => ?_, _, e, fun i j => (olds ++ news).getD (i * s + j) undef, heap_alloc_new C.w.drew _, ?_, fun i j c hij => ?_⟩
        · rcases List.mem_append.1 hr with h | h
          · exact hown.width r h
          · exact hsrc.width r h
        · simp only [Array.size_append, List.size_toArray, size_zeroCells, hzs, hsrc.len, hold.len]
          rw [← Nat.add_mul, ← Nat.add_mul]; congr 1; omega
        · obtain ⟨q, q1, q2, q3, q4⟩ := hold.cat hsrc hij
          have hlt := (List.getElem?_eq_some_iff.1 q1).1
          have eq : (olds ++ news).getD (i * s + j) undef = q := by simp only [List.getD, q1, Option.getD_some]
          dsimp only
          rw [eq]
          refine ⟨?_, q2, q3, q4⟩
          rw [Array.getElem?_append_left (by simpa using hlt)]
          rw [show olds.toArray ++ news.toArray = (olds ++ news).toArray by simp, List.getElem?_toArray]
          exact q1
      obtain ⟨C', st', v, g1, g2, g3, g4⟩ := h1.mkSl hnew hk
      simp only [List.length_append] at g3
      have := hexec _ _ hrun
      rw [← g2] at this
      exact wp_value this (hn C' _ _ (g1.put hd g3) g4)
  simp only [eff] at h
  split at h
  · exact h.elim
  · rename_i ys hys
    obtain ⟨news, hsrc⟩ := src_of (P := P) hinv h0 hY hys
    split at h
    · rename_i s1 ex
      rw [ex] at hX
      generalize hev : a.eval x' = u at hX
      cases hX with
      | nils => exact zero C st ys news none hinv rfl hev (by simp) hsrc h.1 h.2
      | nilsSome _ b off => exact zero C st ys news (some ⟨b, off, none⟩) hinv rfl hev (fun x hx => by cases hx; rfl) hsrc h.1 h.2
    · rename_i r i0 m ex
      rw [ex] at hX
      split at h
      · rename_i s' rs hh
        obtain ⟨rfl, rfl, hm, hbd, hk⟩ := h
        obtain ⟨C1, h1, w1, F1, G1, loc1⟩ := hinv.kills [r]
        have hsrc1 : Src P C1 s' ys (a.eval y') news := hsrc.mono w1 (by rw [F1]; exact fun _ _ h => h) (by rw [G1]; exact fun _ h => h)
        have hdead : ((st.kills [r]).heap r).isDead = true := by simp [St.kills, St.killP, inl, AO.isDead]
        have hk' : newSl s' (rs ++ ys) mode d (st.kills [r]) K := by
          cases mode with
          | none => exact hk
          | some r' =>
            obtain ⟨rfl, hk⟩ := hk
            refine ⟨hdead, ?_⟩
            rw [hm] at hk
            simpa using hk
        have hhC := hh
        rw [← hinv.heap] at hhC
        generalize hev : a.eval x' = u at hX
        cases hX with
        | sref _ _ _ s2 rs2 L g1 g2 g3 =>
          rw [hhC] at g1; cases g1
          subst hm
          have ho := hinv.objs r
          unfold ObjOk at ho
          rw [hhC] at ho
          rcases ho with ⟨_, ho⟩ | ⟨L', hl', q0, q1, q2, q3, ⟨cur, e', g, hb', hcs, hcl⟩, hw, hG⟩
          · rw [g2] at ho; cases ho
          rw [g2] at hl'; cases hl'
          have halive : ∀ r', (C1.heap r').isDead = false → r' ≠ r ∧ (C.heap r').isDead = false := by
            intro r' hr'
            rw [h1.heap] at hr'
            rw [hinv.heap]
            by_cases er : r' = r
            · subst er; rw [hdead] at hr'; cases hr'
            · refine ⟨er, ?_⟩
              simp only [St.kills, St.killP, inl, Bool.or_false, beq_iff_eq, er, if_false] at hr'
              cases hq : st.heap r' with
              | dead => rw [hq] at hr'; simp [AO.kill, AO.isDead] at hr'
              | _ => rfl
          refine blk C1 _ rs ys news L.blk L.cap h1 w1 (by rw [hev]; simp) ⟨fun off => by rw [F1]; exact (hw off).1, by rw [G1]; exact hG, fun off => (hw off).2, fun r' L' k1 k2 k3 => ?_⟩ ⟨q1, q2, q3, cur, e', g, by rw [w1]; exact hb', hcs, fun i j c hij => ?_⟩ hsrc1 hbd hk'
          · obtain ⟨n1, n2⟩ := halive r' k2
            rw [loc1] at k1
            exact n1 (hinv.inj r' r L' L k1 g2 n2 (by rw [hhC]; rfl) k3)
          · obtain ⟨a1, a2, a3, a4⟩ := hcl i j c hij
            exact ⟨a1, a2, a3, a4.of_closed (fun b off hf => ⟨by rw [F1]; exact hf, by rw [w1]⟩) (fun b hb => by rw [G1]; exact hb) a3⟩
        | srefNil _ _ g1 g2 =>
          rw [hhC] at g1; cases g1
          exact zero C1 _ ys news none h1 w1 hev (by simp) hsrc1 (by simpa using hbd) hk'
        | srefZ _ _ s2 rs2 b off g1 g2 =>
          have : rs = [] := List.eq_nil_of_length_eq_zero hm.symm
          subst this
          exact zero C1 _ ys news (some ⟨b, off, none⟩) h1 w1 hev (fun x hx => by cases hx; rfl) hsrc1 (by simpa using hbd) hk'
      · exact h.elim
    · exact h.elim

end Go.Ab

namespace Go.Ab
open Go

variable {E : Ent} {n : Sz} {C : Ctx} {st : St} {a : Act} {P : Program}

def kindOk (k : Nat) (u v : Value) : Prop :=
  (k = 0 ∧ ∃ q a b, u = .int q a ∧ v = .int q b) ∨ (k = 1 ∧ ∃ a b, u = .bool a ∧ v = .bool b) ∨ (k = 2 ∧ ∃ a b, u = .string a ∧ v = .string b)
def eqv : Value → Value → Bool
  | .int _ a, .int _ b => a == b
  | .bool a, .bool b => a == b
  | .string a, .string b => a.toList == b.toList
  | _, _ => false
def eqvs : List Value → List Value → Bool
  | u :: us, v :: vs => eqv u v && eqvs us vs
  | _, _ => true
def kindsOk : List Nat → List Value → List Value → Prop
  | [], [], [] => True
  | k :: ks, u :: us, v :: vs => kindOk k u v ∧ kindsOk ks us vs
  | _, _, _ => False

theorem kindsOk_len : ∀ {ks : List Nat} {us vs : List Value}, kindsOk ks us vs → us.length = ks.length ∧ vs.length = ks.length
  | [], [], [], _ => ⟨rfl, rfl⟩
  | k :: ks, u :: us, v :: vs, h => by obtain ⟨h1, h2⟩ := kindsOk_len h.2; exact ⟨by simp [h1], by simp [h2]⟩
  | [], _ :: _, _, h => h.elim
  | [], [], _ :: _, h => h.elim
  | _ :: _, [], _, h => h.elim
  | _ :: _, _ :: _, [], h => h.elim

theorem kindsOk_append : ∀ {ks ks' : List Nat} {us vs : List Value}, kindsOk (ks ++ ks') us vs → kindsOk ks (us.take ks.length) (vs.take ks.length) ∧ kindsOk ks' (us.drop ks.length) (vs.drop ks.length)
  | [], ks', us, vs, h => ⟨by simp [kindsOk], by simpa using h⟩
  | k :: ks, ks', u :: us, v :: vs, h => by
    obtain ⟨h1, h2⟩ := h
    obtain ⟨i1, i2⟩ := kindsOk_append h2
    exact ⟨⟨h1, i1⟩, i2⟩
  | _ :: _, _, [], _, h => h.elim
  | _ :: _, _, _ :: _, [], h => h.elim

theorem eqvs_split : ∀ (k : Nat) (us vs : List Value), us.length = vs.length → eqvs us vs = (eqvs (us.take k) (vs.take k) && eqvs (us.drop k) (vs.drop k))
  | 0, us, vs, _ => by simp [eqvs]
  | k + 1, [], [], _ => by simp [eqvs]
  | k + 1, u :: us, v :: vs, h => by
    have := eqvs_split k us vs (by simpa using h)
    simp only [eqvs, List.take_succ_cons, List.drop_succ_cons, this, Bool.and_assoc]
  | _ + 1, [], _ :: _, h => by simp at h
  | _ + 1, _ :: _, [], h => by simp at h

def mkv (P : Program) (t : TypeId) (us : List Value) : Value := if rowOk P t true then .agg us.toArray else us.getD 0 undef

theorem run_part_mkv {t k off : Nat} (hs : szOk P t k = true) (hr : rowOk P t true = true ∨ (rowOk P t false = true ∧ k = 1)) {us : List Value} (hk : off + k ≤ us.length) (w : World) :
    (part t us.toArray off).run P w = .ok (mkv P t ((us.drop off).take k)) w := by
  unfold mkv
  rcases hr with hr | ⟨hr, rfl⟩
  · rw [run_part hs hr rfl hk w]; simp [hr]
  · have : rowOk P t true = false := by
      obtain ⟨d, hu, hd⟩ := rowOk_spec hr
      unfold rowOk; rw [hu]; cases d <;> simp_all
    rw [run_part hs hr rfl hk w, this]
    simp [List.getElem?_drop]

theorem leaves_row : ∀ {d t : Nat} {ks : List Nat}, leaves P d t = some ks → rowOk P t true = true ∨ (rowOk P t false = true ∧ ks.length = 1)
  | 0, _, _, h => by simp [leaves] at h
  | d + 1, t, ks, h => by
    unfold leaves at h
    unfold rowOk
    cases hu : P.underlying t with
    | none => simp [hu] at h
    | some k =>
      rw [hu] at h
      cases k <;> simp only [Option.some.injEq, reduceCtorEq] at h
      all_goals first | exact .inl rfl | (subst h; exact .inr ⟨rfl, rfl⟩)

theorem run_eq_deep (w : World) : ∀ (d t : Nat) (ks : List Nat), leaves P d t = some ks → ∀ (us vs : List Value), kindsOk ks us vs → ∀ D, (Op.equalIn (D + d) t (mkv P t us) (mkv P t vs)).run P w = .ok (eqvs us vs) w
  | 0, _, _, h => by simp [leaves] at h
  | d + 1, t, ks, h => by
    intro us vs hk D
    have ih := run_eq_deep w d
    have plain : ∀ k, ks = [k] → rowOk P t true = false → (∀ u v, kindOk k u v → (Op.equalIn (D + d + 1) t u v).run P w = .ok (eqv u v) w) → (Op.equalIn (D + (d + 1)) t (mkv P t us) (mkv P t vs)).run P w = .ok (eqvs us vs) w := by
      intro k e hr hx
      subst e
      cases us with
      | nil => exact hk.elim
      | cons u us => cases vs with
        | nil => exact hk.elim
        | cons v vs =>
          obtain ⟨h1, h2⟩ := hk
          cases us with
          | cons _ _ => exact h2.elim
          | nil => cases vs with
            | cons _ _ => exact h2.elim
            | nil =>
              rw [show D + (d + 1) = D + d + 1 from rfl]
              simpa [mkv, hr, eqvs] using hx u v h1
    unfold leaves at h
    split at h
    · rename_i hu
      cases h
      refine plain 1 rfl (by unfold rowOk; rw [hu]; rfl) fun u v hkk => ?_
      rcases hkk with ⟨h, _⟩ | ⟨_, a, b, rfl, rfl⟩ | ⟨h, _⟩
      · cases h
      · exact run_equalIn_bool w (D + d) t a b hu
      · cases h
    · rename_i q hu
      cases h
      refine plain 0 rfl (by unfold rowOk; rw [hu]; rfl) fun u v hkk => ?_
      rcases hkk with ⟨_, q', a, b, rfl, rfl⟩ | ⟨h, _⟩ | ⟨h, _⟩
      · exact run_equalIn_int w (D + d) t q' q a b hu
      · cases h
      · cases h
    · rename_i hu
      cases h
      refine plain 2 rfl (by unfold rowOk; rw [hu]; rfl) fun u v hkk => ?_
      rcases hkk with ⟨h, _⟩ | ⟨h, _⟩ | ⟨_, a, b, rfl, rfl⟩
      · cases h
      · cases h
      · exact run_equalIn_string w (D + d) t a b hu
    · rename_i fs hu
      split at h
      · cases h
      · rename_i hheld
        have hrow : rowOk P t true = true := by unfold rowOk; rw [hu]
        have hf : P.fieldsOf t = fs := by simp [Program.fieldsOf, hu]
        simp only [mkv, hrow, if_true]
        rw [show D + (d + 1) = (D + d) + 1 from rfl, run_equalIn_struct w (D + d) t _ _ (by rw [hf]; exact hu) (by simpa using hheld), hf]
        have key : ∀ (fl : List Field) (off : Nat) (ks' : List Nat), leavesF P (leaves P d) fl off = some ks' → off ≤ us.length → off ≤ vs.length → kindsOk ks' (us.drop off) (vs.drop off) →
            (Op.eqFields (D + d) us.toArray vs.toArray fl).run P w = .ok (eqvs (us.drop off) (vs.drop off)) w := by
          intro fl
          induction fl with
          | nil =>
            intro off ks' h _ _ hk
            simp only [leavesF, Option.some.injEq] at h
            subst h
            obtain ⟨l1, l2⟩ := kindsOk_len hk
            have e1 : us.drop off = [] := List.eq_nil_of_length_eq_zero (by simpa using l1)
            have e2 : vs.drop off = [] := List.eq_nil_of_length_eq_zero (by simpa using l2)
            rw [e1, e2]
            simp [Op.eqFields, eqvs]
          | cons f fl ihf =>
            intro off ks' h hu1 hv1 hk
            simp only [leavesF] at h
            split at h
            · rename_i hcond
              simp only [Bool.and_eq_true, beq_iff_eq, bne_iff_ne] at hcond
              obtain ⟨ho, hn⟩ := hcond
              split at h
              · rename_i ks1 hl
                split at h
                · rename_i hsz
                  simp only [Option.map_eq_some_iff] at h
                  obtain ⟨ks2, h2, rfl⟩ := h
                  obtain ⟨k1, k2⟩ := kindsOk_append hk
                  obtain ⟨l1, l2⟩ := kindsOk_len k1
                  have n1 : off + ks1.length ≤ us.length := by
                    have : ((us.drop off).take ks1.length).length = ks1.length := l1
                    simp at this; omega
                  have n2 : off + ks1.length ≤ vs.length := by
                    have : ((vs.drop off).take ks1.length).length = ks1.length := l2
                    simp at this; omega
                  have p1 := run_part_mkv (P := P) hsz (leaves_row hl) n1 w
                  have p2 := run_part_mkv (P := P) hsz (leaves_row hl) n2 w
                  have p3 := ih f.type ks1 hl _ _ k1 D
                  rw [List.drop_drop, List.drop_drop] at k2
                  have p4 := ihf (off + ks1.length) ks2 h2 n1 n2 k2
                  have hlen : (us.drop off).length = (vs.drop off).length := by
                    obtain ⟨q1, q2⟩ := kindsOk_len hk
                    rw [q1, q2]
                  have e := eqvs_split ks1.length (us.drop off) (vs.drop off) hlen
                  rw [List.drop_drop, List.drop_drop] at e
                  simp only [Op.eqFields, hn, ne_eq, not_false_eq_true, if_true, Sem.run_bind, ho, p1, p2, p3, Result.andThen_ok]
                  cases hb : eqvs ((us.drop off).take ks1.length) ((vs.drop off).take ks1.length)
                  · simp [e, hb]
                  · simp [e, hb, p4]
                · cases h
              · cases h
            · cases h
        have := key fs.toList 0 ks h (Nat.zero_le _) (Nat.zero_le _) (by simpa using hk)
        simpa using this
    · rename_i m e hu
      split at h
      · rename_i ks1 hl
        split at h
        · rename_i hsz
          cases h
          have hrow : rowOk P t true = true := by unfold rowOk; rw [hu]
          obtain ⟨ii, hii, hsi⟩ := szOk_spec hsz
          simp only [mkv, hrow, if_true]
          rw [show D + (d + 1) = (D + d) + 1 from rfl, run_equalIn_array w (D + d) _ _ hu hii]
          have hce : P.cellsOf e = ks1.length := by simp [Program.cellsOf, hii, hsi]
          rw [hce, List.range_eq_range']
          have key : ∀ (m j : Nat), j * ks1.length ≤ us.length → j * ks1.length ≤ vs.length → kindsOk (List.replicate m ks1).flatten (us.drop (j * ks1.length)) (vs.drop (j * ks1.length)) →
              (Op.eqItems (D + d) e ks1.length us.toArray vs.toArray (List.range' j m)).run P w = .ok (eqvs (us.drop (j * ks1.length)) (vs.drop (j * ks1.length))) w := by
            intro m
            induction m with
            | zero =>
              intro j _ _ hk
              obtain ⟨l1, l2⟩ := kindsOk_len hk
              have e1 : us.drop (j * ks1.length) = [] := List.eq_nil_of_length_eq_zero (by simpa using l1)
              have e2 : vs.drop (j * ks1.length) = [] := List.eq_nil_of_length_eq_zero (by simpa using l2)
              rw [e1, e2]
              simp [Op.eqItems, eqvs]
            | succ m ihm =>
              intro j hu1 hv1 hk
              simp only [List.replicate_succ, List.flatten_cons] at hk
              obtain ⟨k1, k2⟩ := kindsOk_append hk
              obtain ⟨l1, l2⟩ := kindsOk_len k1
              have n1 : j * ks1.length + ks1.length ≤ us.length := by
                have : ((us.drop (j * ks1.length)).take ks1.length).length = ks1.length := l1
                simp at this; omega
              have n2 : j * ks1.length + ks1.length ≤ vs.length := by
                have : ((vs.drop (j * ks1.length)).take ks1.length).length = ks1.length := l2
                simp at this; omega
              have p1 := run_part_mkv (P := P) hsz (leaves_row hl) n1 w
              have p2 := run_part_mkv (P := P) hsz (leaves_row hl) n2 w
              have p3 := ih e ks1 hl _ _ k1 D
              have ej : j * ks1.length + ks1.length = (j + 1) * ks1.length := by rw [Nat.succ_mul]
              rw [List.drop_drop, List.drop_drop, ej] at k2
              have p4 := ihm (j + 1) (by rw [← ej]; exact n1) (by rw [← ej]; exact n2) k2
              have hlen : (us.drop (j * ks1.length)).length = (vs.drop (j * ks1.length)).length := by
                obtain ⟨q1, q2⟩ := kindsOk_len hk
                rw [q1, q2]
              have ee := eqvs_split ks1.length (us.drop (j * ks1.length)) (vs.drop (j * ks1.length)) hlen
              rw [List.drop_drop, List.drop_drop, ej] at ee
              simp only [List.range'_succ, Op.eqItems, Sem.run_bind, p1, p2, p3, Result.andThen_ok]
              cases hb : eqvs ((us.drop (j * ks1.length)).take ks1.length) ((vs.drop (j * ks1.length)).take ks1.length)
              · simp [ee, hb]
              · simp [ee, hb, p4]
          have := key m 0 (by simp) (by simp) (by simpa using hk)
          simpa using this
        · cases h
      · cases h
    · cases h

theorem eqC_R {k : Nat} {x y : V} {u v : Value} {r : Bool} (h : eqC k x y = some r) (hx : R C x u) (hy : R C y v) : kindOk k u v ∧ eqv u v = r := by
  unfold eqC at h
  split at h
  · split at h
    · rename_i e; subst e; cases h
      cases hx; cases hy
      exact ⟨.inl ⟨rfl, _, _, _, rfl, rfl⟩, rfl⟩
    · cases h
  · cases h; cases hx; cases hy
    exact ⟨.inr (.inl ⟨rfl, _, _, rfl, rfl⟩), rfl⟩
  · cases h; cases hx; cases hy
    exact ⟨.inr (.inr ⟨rfl, _, _, rfl, rfl⟩), rfl⟩
  · cases h

theorem eqK_R : ∀ {ks : List Nat} {xs ys : List V} {us vs : List Value} {r : Bool}, eqK ks xs ys = some r → xs.length = us.length → ys.length = vs.length →
    (∀ (j : Nat) (c : V), xs[j]? = some c → R C c (us.getD j undef)) → (∀ (j : Nat) (c : V), ys[j]? = some c → R C c (vs.getD j undef)) → kindsOk ks us vs ∧ eqvs us vs = r
  | [], [], [], us, vs, r, h, h1, h2, _, _ => by
    have e1 : us = [] := List.eq_nil_of_length_eq_zero h1.symm
    have e2 : vs = [] := List.eq_nil_of_length_eq_zero h2.symm
    subst e1 e2
    simp only [eqK, Option.some.injEq] at h
    exact ⟨trivial, by simpa [eqvs] using h⟩
  | k :: ks, x :: xs, y :: ys, [], _, _, _, h1, _, _, _ => by simp at h1
  | k :: ks, x :: xs, y :: ys, _ :: _, [], _, _, _, h2, _, _ => by simp at h2
  | k :: ks, x :: xs, y :: ys, u :: us, v :: vs, r, h, h1, h2, hx, hy => by
    simp only [eqK] at h
    split at h
    · rename_i p q hp hq
      cases h
      obtain ⟨a1, a2⟩ := eqC_R hp (hx 0 x rfl) (hy 0 y rfl)
      obtain ⟨b1, b2⟩ := eqK_R hq (by simpa using h1) (by simpa using h2) (fun j c hj => by simpa using hx (j + 1) c (by simpa using hj)) (fun j c hj => by simpa using hy (j + 1) c (by simpa using hj))
      exact ⟨⟨a1, b1⟩, by simp only [eqvs]; rw [show eqv u v = p from a2, b2]⟩
    · cases h
  | [], _ :: _, _, _, _, _, h, _, _, _, _ => by simp [eqK] at h
  | [], [], _ :: _, _, _, _, h, _, _, _, _ => by simp [eqK] at h
  | _ :: _, [], _, _, _, _, h, _, _, _, _ => by simp [eqK] at h
  | _ :: _, _ :: _, [], _, _, _, h, _, _, _, _ => by simp [eqK] at h

theorem snd_eqa {ng : Bool} {ks : List Nat} {x y : X} : Snd P (.eqa ng ks x y) := by
  intro E n C st a o d K next Q hinv hok hd h hn _
  cases hop : o.op <;> rw [hop] at hok <;> simp only [okOp, Bool.false_eq_true, Bool.and_eq_true, beq_iff_eq] at hok
  rename_i b t x' y' t'
  obtain ⟨⟨⟨⟨⟨hb, hl⟩, hrow⟩, hg⟩, h1⟩, h2⟩ := hok
  have hx := hinv.ev h1
  have hy := hinv.ev h2
  simp only [eff] at h
  split at h
  · rename_i p q e1 e2
    split at h
    · rename_i r hr
      rw [e1] at hx; rw [e2] at hy
      generalize hu : a.eval x' = u at hx
      generalize hv : a.eval y' = v at hy
      cases hx with
      | agg _ us l1 o1 r1 =>
        cases hy with
        | agg _ vs l2 o2 r2 =>
          obtain ⟨k1, k2⟩ := eqK_R hr l1 l2 r1 r2
          have hrun := run_eq_deep (P := P) C.w 8 t ks hl us vs k1 9992
          simp only [mkv, hrow, if_true] at hrun
          have hgt : P.eqGuardType P.depth t = false := by simpa using hg
          refine wp_value (u := .bool (ng ^^ r)) (w' := C.w) ?_ (hn C _ _ (hinv.put hd (.bool _)) h)
          simp only [Bool.or_eq_true, Bool.and_eq_true, beq_iff_eq, Bool.not_eq_true'] at hb
          rcases hb with ⟨rfl, rfl⟩ | ⟨rfl, rfl⟩
          · simp only [execOp, hop, hu, hv, Sem.run_bind, run_eqGuard_agg C.w _ t x' y' _ _ hgt, Result.andThen_ok, run_eql_struct]
            rw [hrun, k2]
            simp
          · simp only [execOp, hop, hu, hv, Sem.run_bind, run_eqGuard_agg C.w _ t x' y' _ _ hgt, Result.andThen_ok, run_neq_struct]
            rw [hrun, k2]
            simp
    · exact h.elim
  · exact h.elim

theorem snd_eqs {ng : Bool} {x y : X} : Snd P (.eqs ng x y) := by
  intro E n C st a o d K next Q hinv hok hd h hn _
  cases hop : o.op <;> rw [hop] at hok <;> simp only [okOp, Bool.false_eq_true, Bool.and_eq_true] at hok
  rename_i b t x' y' t'
  obtain ⟨⟨hb, h1⟩, h2⟩ := hok
  have hx := hinv.ev h1
  have hy := hinv.ev h2
  simp only [eff] at h
  split at h
  · rename_i p q e1 e2
    rw [e1] at hx; rw [e2] at hy
    refine wp_value (u := .bool (ng ^^ (p.toList == q.toList))) (w' := C.w) ?_ (hn C _ _ (hinv.put hd (.bool _)) h)
    simp only [Bool.or_eq_true, Bool.and_eq_true, beq_iff_eq, Bool.not_eq_true'] at hb
    rcases hb with ⟨rfl, rfl⟩ | ⟨rfl, rfl⟩ <;> simp [execOp, hop, R_str hx, R_str hy, eqGuard, binOp, Op.stringOp]
  · exact h.elim

theorem snd_eqb {ng : Bool} {x y : X} : Snd P (.eqb ng x y) := by
  intro E n C st a o d K next Q hinv hok hd h hn _
  cases hop : o.op <;> rw [hop] at hok <;> simp only [okOp, Bool.false_eq_true, Bool.and_eq_true] at hok
  rename_i b t x' y' t'
  obtain ⟨⟨⟨hb, ht⟩, h1⟩, h2⟩ := hok
  have hu : P.underlying t = some .bool := by
    split at ht
    · assumption
    · cases ht
  have hx := hinv.ev h1
  have hy := hinv.ev h2
  simp only [eff] at h
  split at h
  · rename_i p q e1 e2
    rw [e1] at hx; rw [e2] at hy
    refine wp_value (u := .bool (ng ^^ (p == q))) (w' := C.w) ?_ (hn C _ _ (hinv.put hd (.bool _)) h)
    simp only [Bool.or_eq_true, Bool.and_eq_true, beq_iff_eq, Bool.not_eq_true'] at hb
    rcases hb with ⟨rfl, rfl⟩ | ⟨rfl, rfl⟩ <;> simp [execOp, hop, R_bool hx, R_bool hy, eqGuard, binOp, run_equal_bool C.w t p q hu]
  · exact h.elim

end Go.Ab

namespace Go.Ab
open Go

variable {E : Ent} {n : Sz} {C : Ctx} {st : St} {a : Act} {P : Program}

theorem shL_get : ∀ (l : List V) (j : Nat), (V.shL l)[j]? = (l[j]?).map V.sh
  | [], j => by simp [V.shL]
  | v :: l, 0 => by simp [V.shL]
  | v :: l, j + 1 => by simp [V.shL, shL_get l j]
theorem shL_len (l : List V) : (V.shL l).length = l.length := by
  induction l with
  | nil => rfl
  | cons v l ih => simp [V.shL, ih]
theorem shR_get : ∀ (l : List (List V)) (j : Nat), (V.shR l)[j]? = (l[j]?).map V.shL
  | [], j => by simp [V.shR]
  | v :: l, 0 => by simp [V.shR]
  | v :: l, j + 1 => by simp [V.shR, shR_get l j]
theorem shR_len (l : List (List V)) : (V.shR l).length = l.length := by
  induction l with
  | nil => rfl
  | cons v l ih => simp [V.shR, ih]
theorem at2_sh {rows : List (List V)} {i j : Nat} {c : V} (h : at2 (V.shR rows) i j = some c) : ∃ c', at2 rows i j = some c' ∧ c = c'.sh := by
  unfold at2 at h ⊢
  rw [shR_get] at h
  cases hr : rows[i]? with
  | none => simp [hr] at h
  | some r =>
    simp only [hr, Option.map_some, Option.bind_some, shL_get, Option.map_eq_some_iff] at h
    obtain ⟨c', h1, rfl⟩ := h
    exact ⟨c', by simpa using h1, rfl⟩

mutual
theorem closed_sh : ∀ v : V, v.closed = true → v.sh.closed = true
  | .undef, h => by simp [V.closed] at h
  | .bool _, _ | .int _ _, _ | .str _, _ | .nilp, _ | .nilf, _ | .nils _, _ => by simp [V.sh, V.closed]
  | .ptr _ _, h => by simp [V.closed] at h
  | .rptr _ _ _, h => by simp [V.closed] at h
  | .sref _ _ _, h => by simp [V.closed] at h
  | .sl _ _ _, _ => by simp [V.sh, V.closed]
  | .cp cs _, h => by simp only [V.closed] at h; simp only [V.sh, V.closed]; exact closedL_sh cs h
  | .agg cs, h => by simp only [V.closed] at h; simp only [V.sh, V.closed]; exact closedL_sh cs h
  | .tup cs, h => by simp only [V.closed] at h; simp only [V.sh, V.closed]; exact closedL_sh cs h
  | .fn _ a b, h => by
    simp only [V.closed, Bool.and_eq_true] at h
    simp only [V.sh, V.closed, Bool.and_eq_true]
    exact ⟨closedL_sh a h.1, closedL_sh b h.2⟩
  | .mp _, h => by simp [V.closed] at h
  | .own _ _, h => by simp [V.closed] at h
  | .io _, h => by simp [V.closed] at h
  | .ownm _ _, h => by simp [V.closed] at h
theorem closedL_sh : ∀ l : List V, V.closedL l = true → V.closedL (V.shL l) = true
  | [], _ => rfl
  | v :: l, h => by
    simp only [V.closedL, Bool.and_eq_true] at h
    simp only [V.shL, V.closedL, Bool.and_eq_true]
    exact ⟨closed_sh v h.1, closedL_sh l h.2⟩
end

mutual
theorem closed_of_sh : ∀ v : V, v.sh.closed = true → v.closed = true
  | .undef, h => by simp [V.sh, V.closed] at h
  | .bool _, _ | .int _ _, _ | .str _, _ | .nilp, _ | .nilf, _ | .nils _, _ => by simp [V.closed]
  | .ptr _ _, h => by simp [V.sh, V.closed] at h
  | .rptr _ _ _, h => by simp [V.sh, V.closed] at h
  | .sref _ _ _, h => by simp [V.sh, V.closed] at h
  | .sl _ _ _, _ => by simp [V.closed]
  | .cp cs _, h => by simp only [V.sh, V.closed] at h ⊢; exact closedL_of_sh cs h
  | .agg cs, h => by simp only [V.sh, V.closed] at h ⊢; exact closedL_of_sh cs h
  | .tup cs, h => by simp only [V.sh, V.closed] at h ⊢; exact closedL_of_sh cs h
  | .fn _ a b, h => by
    simp only [V.sh, V.closed, Bool.and_eq_true] at h ⊢
    exact ⟨closedL_of_sh a h.1, closedL_of_sh b h.2⟩
  | .mp _, h => by simp [V.sh, V.closed] at h
  | .own _ _, h => by simp [V.sh, V.closed] at h
  | .io _, h => by simp [V.sh, V.closed] at h
  | .ownm _ _, h => by simp [V.sh, V.closed] at h
theorem closedL_of_sh : ∀ l : List V, V.closedL (V.shL l) = true → V.closedL l = true
  | [], _ => rfl
  | v :: l, h => by
    simp only [V.shL, V.closedL, Bool.and_eq_true] at h ⊢
    exact ⟨closed_of_sh v h.1, closedL_of_sh l h.2⟩
end

theorem mapR {cs : List V} {us : List Value} {f : V → V} (hl : cs.length = us.length) (h : ∀ (j : Nat) (c : V), cs[j]? = some c → R C (f c) (us.getD j undef)) :
    (cs.map f).length = us.length ∧ ∀ (j : Nat) (c : V), (cs.map f)[j]? = some c → R C c (us.getD j undef) := by
  refine ⟨by simpa using hl, fun j c hj => ?_⟩
  simp only [List.getElem?_map, Option.map_eq_some_iff] at hj
  obtain ⟨c', h1, rfl⟩ := hj
  exact h j c' h1

theorem shL_eq (l : List V) : V.shL l = l.map V.sh := by
  induction l with
  | nil => rfl
  | cons v l ih => simp [V.shL, ih]

theorem R_shG {v : V} {u : Value} (h : R C v u) (G' : Nat → Prop) : R { C with G := G' } v.sh u := by
  induction h with
  | undef u => exact .undef u
  | bool b => exact .bool b
  | int k m => exact .int k m
  | str s => exact .str s
  | nilp => exact .nilp
  | nilf => exact .nilf
  | ptr r off cs L h hl => exact .ptr r off cs L h hl
  | rptr r i off s rs L h hl hi => exact .rptr r i off s rs L h hl hi
  | sref r i m s rs L h hl hi => exact .sref r i m s rs L h hl hi
  | srefNil r s h hl => exact .srefNil r s h hl
  | srefZ r i s rs b off h hi => exact .srefZ r i s rs b off h hi
  | mp r ks vs L h hl => exact .mp r ks vs L h hl
  | nils s => exact .nils s
  | nilsSome s b off => exact .nilsSome s b off
  | slNil fr s => exact .slNil false s
  | slZ fr s a => exact .slZ false s a
  | sl fr s rows b base cap g hc hm hu hfr hcell hcl hr ih =>
    simp only [V.sh]
    rw [← shR_len rows]
    refine .sl false s _ b base cap g (by rw [shR_len]; exact hc) hm (fun r hr' => ?_) (by simp) (fun i j c hij => ?_) (fun i j c hij => ?_) (fun i j c hij => ?_)
    · obtain ⟨i, hi⟩ := List.getElem?_of_mem hr'
      rw [shR_get, Option.map_eq_some_iff] at hi
      obtain ⟨r', h1, rfl⟩ := hi
      rw [shL_len]; exact hu r' (List.mem_of_getElem? h1)
    · obtain ⟨c', h1, rfl⟩ := at2_sh hij; exact hcell i j c' h1
    · obtain ⟨c', h1, rfl⟩ := at2_sh hij; exact closed_sh _ (hcl i j c' h1)
    · obtain ⟨c', h1, rfl⟩ := at2_sh hij; exact ih i j c' h1
  | cp cs off b base g hcell hcl hr ih =>
    simp only [V.sh]
    refine .cp _ off b base g (fun j c hj => ?_) (fun j c hj => ?_) (fun j c hj => ?_)
    all_goals
      rw [shL_get, Option.map_eq_some_iff] at hj
      obtain ⟨c', h1, rfl⟩ := hj
    · exact hcell j c' h1
    · exact closed_sh _ (hcl j c' h1)
    · exact ih j c' h1
  | agg cs us hl h1 hr ih =>
    simp only [V.sh, shL_eq]
    obtain ⟨l, r⟩ := mapR hl ih
    exact .agg _ us l h1 r
  | tup vs us hl hr ih =>
    simp only [V.sh, shL_eq]
    obtain ⟨l, r⟩ := mapR hl ih
    exact .tup _ us l r
  | fn f first caps us ws hl hl' hr hr' ih ih' =>
    simp only [V.sh, shL_eq]
    obtain ⟨l, r⟩ := mapR hl ih
    obtain ⟨l', r'⟩ := mapR hl' ih'
    exact .fn f _ _ us ws l l' r r'

theorem R_sh {v : V} {u : Value} (h : R C v u) : R C v.sh u := R_shG h C.G

theorem RB1_shG {v : V} {u : Value} (h : RB1 C v u) (G' : Nat → Prop) : RB1 { C with G := G' } v.sh u := by
  by_cases hv : ∃ s rows, v = .own s rows
  · obtain ⟨s, rows, rfl⟩ := hv
    rw [RB1_own] at h
    simp only [V.sh]
    rw [RB1_own]
    rw [OwnR_iff] at h ⊢
    rcases h with ⟨rfl, hu⟩ | ⟨b, cap, h1, h2, h3, h4, h5, cur, e, g, h6, h7, h8⟩
    · exact .inl ⟨rfl, hu⟩
    · refine .inr ⟨b, cap, by rw [shR_len]; exact h1, h2, by rw [shR_len]; exact h3, h4, fun r hr => ?_, cur, e, g, h6, h7, fun i j c hij => ?_⟩
      · obtain ⟨i, hi⟩ := List.getElem?_of_mem hr
        rw [shR_get, Option.map_eq_some_iff] at hi
        obtain ⟨r', q1, rfl⟩ := hi
        rw [shL_len]; exact h5 r' (List.mem_of_getElem? q1)
      · obtain ⟨c', q1, rfl⟩ := at2_sh hij
        obtain ⟨a1, a2, a3, a4⟩ := h8 i j c' q1
        exact ⟨a1, a2, closed_sh _ a3, R_shG a4 G'⟩
  · have hne : ∀ s rows, v ≠ .own s rows := fun s rows e => hv ⟨s, rows, e⟩
    by_cases hm : ∃ ks vs, v = .ownm ks vs
    · obtain ⟨ks, vs, rfl⟩ := hm
      obtain ⟨b, clock, ents, h1, h2, h3, h4, h5, h6⟩ := h
      simp only [V.sh]
      refine ⟨b, clock, ents, h1, h2, h3, (shL_len vs).trans h4, fun j k hj => ?_, fun j v hj => ?_⟩
      · obtain ⟨a1, e, a2, a3⟩ := h5 j k hj
        refine ⟨a1, e, a2, ?_⟩
        have := R_shG a3 G'
        have ek : k.sh = k := by cases k <;> simp [V.keyOk] at a1 <;> rfl
        rwa [ek] at this
      · rw [shL_get, Option.map_eq_some_iff] at hj
        obtain ⟨v', hj, rfl⟩ := hj
        obtain ⟨a1, e, a2, a3⟩ := h6 j v' hj
        exact ⟨closed_sh _ a1, e, a2, R_shG a3 G'⟩
    have hm' : ∀ ks vs, v ≠ .ownm ks vs := fun ks vs e => hm ⟨ks, vs, e⟩
    rw [RB1_other hne hm'] at h
    have : ∀ s rows, v.sh ≠ .own s rows := fun s rows e => by
      cases v <;> simp only [V.sh] at e <;> first | exact hne _ _ rfl | cases e
    have this' : ∀ ks vs, v.sh ≠ .ownm ks vs := fun ks vs e => by
      cases v <;> simp only [V.sh] at e <;> first | exact hm' _ _ rfl | cases e
    rw [RB1_other this this']
    exact R_shG h G'

theorem owns1_sh {v : V} {u : Value} : owns1 v.sh u = owns1 v u := by
  cases v with
  | own s rows => cases u with
    | slice a l c => cases a <;> simp [V.sh, owns1]
    | _ => simp [V.sh, owns1]
  | ownm ks vs => cases u with
    | map b => cases b <;> simp [V.sh, owns1]
    | _ => simp [V.sh, owns1]
  | _ => simp [V.sh, owns1]

def Lent (C : Ctx) (b off : Nat) : Prop := C.F b off ∨ ∃ r L, C.loc r = some L ∧ (C.heap r).isDead = false ∧ L.blk = b

theorem lent_closed {v : V} {u : Value} (h : R C v u) (hv : v.closed = true) : R (bare C.w (Lent C) C.G) v u :=
  R.of_closed (C' := bare C.w (Lent C) C.G) (fun _ _ hf => ⟨Or.inl hf, rfl⟩) (fun _ h => h) h hv

theorem frz_sound (h : Inv E n C st a) : ∀ (k : Nat) (v : V) (u : Value), R C v u → (frz st k v).closed = true → R (bare C.w (Lent C) C.G) (frz st k v) u
  | 0, v, u, hR, hc => by
    have e : frz st 0 v = v := by unfold frz; cases v <;> rfl
    rw [e] at hc ⊢
    exact lent_closed hR hc
  | k + 1, v, u, hR, hc => by
    have ih := frz_sound h k
    have other : frz st (k + 1) v = v → R (bare C.w (Lent C) C.G) (frz st (k + 1) v) u := fun e => by
      rw [e] at hc ⊢; exact lent_closed hR hc
    cases hR with
    | undef | bool | int | str | nilp | nilf | slNil | slZ | sl | cp | mp => exact other rfl
    | ptr r off cs L g1 g2 =>
      have hh : st.heap r = .box cs := by rw [← h.heap]; exact g1
      have ho := h.objs r
      unfold ObjOk at ho
      rw [g1] at ho
      obtain ⟨L', hl', ⟨cur, e, g, hb, hcell⟩, _⟩ := ho
      rw [g2] at hl'; cases hl'
      simp only [frz, hh] at hc ⊢
      simp only [V.closed] at hc
      refine .cp _ off L.blk L.base g (fun j c hj => ?_) (fun j c hj => closedL_all hc j c hj) (fun j c hj => ?_)
      all_goals
        have hcl := closedL_all hc j c hj
        simp only [List.getElem?_map, Option.map_eq_some_iff] at hj
        obtain ⟨c', h1, rfl⟩ := hj
        obtain ⟨a1, a2, a3⟩ := hcell j c' h1
      · exact ⟨by rw [show (bare C.w (Lent C) C.G).w = C.w from rfl, cell_of_row _ _ _ _ _ _ hb]; exact a1, .inr ⟨r, L, g2, by rw [g1]; rfl, rfl⟩, a2⟩
      · exact ih c' _ a3 hcl
    | rptr r i off s rs L g1 g2 g3 =>
      have hh : st.heap r = .rows s rs := by rw [← h.heap]; exact g1
      have ho := h.objs r
      unfold ObjOk at ho
      rw [g1] at ho
      rcases ho with ⟨_, ho⟩ | ⟨L', hl', q0, q1, q2, q3, ⟨cur, e, g, hb, hcs, hcell⟩, _⟩
      · rw [g2] at ho; cases ho
      rw [g2] at hl'; cases hl'
      simp only [frz, hh]
      refine .cp _ off L.blk (i * s) (g i) (fun j c hj => ?_) (fun j c hj => ?_) (fun j c hj => ?_)
      all_goals obtain ⟨a1, a2, a3, a4⟩ := hcell i j c (at2_some g3 hj)
      · exact ⟨by rw [show (bare C.w (Lent C) C.G).w = C.w from rfl, cell_of_row _ _ _ _ _ _ hb]; exact a1, .inr ⟨r, L, g2, by rw [g1]; rfl, rfl⟩, a2⟩
      · exact a3
      · exact lent_closed a4 a3
    | sref r i m s rs L g1 g2 g3 =>
      have hh : st.heap r = .rows s rs := by rw [← h.heap]; exact g1
      have ho := h.objs r
      unfold ObjOk at ho
      rw [g1] at ho
      rcases ho with ⟨_, ho⟩ | ⟨L', hl', q0, q1, q2, q3, ⟨cur, e, g, hb, hcs, hcell⟩, _⟩
      · rw [g2] at ho; cases ho
      rw [g2] at hl'; cases hl'
      simp only [frz, hh]
      have hlen : ((rs.drop i).take m).length = m := by simp; omega
      have := R.sl (C := bare C.w (Lent C) C.G) false s ((rs.drop i).take m) L.blk (i * s) (L.cap - i) (fun i' j => g (i + i') j) (by omega) (by omega) (fun r' hr' => q3 r' (List.drop_subset _ _ (List.take_subset _ _ hr'))) (by simp)
        (fun i' j c hij => by
          obtain ⟨h1, _⟩ := at2_seg hij
          obtain ⟨a1, a2, a3, a4⟩ := hcell _ _ _ h1
          refine ⟨?_, .inr ⟨r, L, g2, by rw [g1]; rfl, rfl⟩, a2⟩
          rw [show (bare C.w (Lent C) C.G).w = C.w from rfl, cell_of_row _ _ _ _ _ _ hb, ← a1, Nat.add_mul])
        (fun i' j c hij => (hcell _ _ _ (at2_seg hij).1).2.2.1)
        (fun i' j c hij => lent_closed (hcell _ _ _ (at2_seg hij).1).2.2.2 (hcell _ _ _ (at2_seg hij).1).2.2.1)
      rw [hlen] at this
      exact this
    | srefNil r s g1 g2 =>
      have hh : st.heap r = .rows s [] := by rw [← h.heap]; exact g1
      simp only [frz, hh]
      exact .slNil false s
    | srefZ r i s rs b off g1 g2 =>
      have hh : st.heap r = .rows s rs := by rw [← h.heap]; exact g1
      simp only [frz, hh, List.take_zero]
      exact .sl false s [] b off 0 (fun _ _ => undef) (by simp) (by simp [maxLen]) (by simp) (by simp) (fun i j c hij => by simp [at2] at hij) (fun i j c hij => by simp [at2] at hij) (fun i j c hij => by simp [at2] at hij)
    | nils s => simp only [frz]; exact .slNil false s
    | nilsSome s b off =>
      simp only [frz]
      exact .sl false s [] b off 0 (fun _ _ => undef) (by simp) (by simp [maxLen]) (by simp) (by simp) (fun i j c hij => by simp [at2] at hij) (fun i j c hij => by simp [at2] at hij) (fun i j c hij => by simp [at2] at hij)
    | agg cs us hl h1 hr =>
      simp only [frz] at hc ⊢
      simp only [V.closed] at hc
      obtain ⟨l, r⟩ := mapR (C := bare C.w (Lent C) C.G) (f := frz st k) hl (fun j c hj => ih c _ (hr j c hj) (closedL_all hc j _ (by simp [hj])))
      exact .agg _ us l h1 r
    | tup cs us hl hr =>
      simp only [frz] at hc ⊢
      simp only [V.closed] at hc
      obtain ⟨l, r⟩ := mapR (C := bare C.w (Lent C) C.G) (f := frz st k) hl (fun j c hj => ih c _ (hr j c hj) (closedL_all hc j _ (by simp [hj])))
      exact .tup _ us l r
    | fn f first caps us ws hl hl' hr hr' =>
      simp only [frz] at hc ⊢
      simp only [V.closed, Bool.and_eq_true] at hc
      obtain ⟨l, r⟩ := mapR (C := bare C.w (Lent C) C.G) (f := frz st k) hl (fun j c hj => ih c _ (hr j c hj) (closedL_all hc.1 j _ (by simp [hj])))
      obtain ⟨l', r'⟩ := mapR (C := bare C.w (Lent C) C.G) (f := frz st k) hl' (fun j c hj => ih c _ (hr' j c hj) (closedL_all hc.2 j _ (by simp [hj])))
      exact .fn f _ _ us ws l l' r r'

end Go.Ab

namespace Go.Ab
open Go

variable {E : Ent} {n : Sz} {C : Ctx} {st : St} {a : Act} {P : Program}

def Wk (o o' : AO) : Prop := o' = o ∨ ∃ cs cs', o = .box cs ∧ o' = .box cs' ∧ cs'.length = cs.length ∧ ∀ (j : Nat) (c : V), cs'[j]? = some c → c = .undef ∨ cs[j]? = some c

theorem Wk.refl (o : AO) : Wk o o := .inl rfl
theorem Wk.trans {o o' o'' : AO} (h : Wk o o') (h' : Wk o' o'') : Wk o o'' := by
  rcases h with rfl | ⟨cs, cs', rfl, rfl, l1, c1⟩
  · exact h'
  · rcases h' with rfl | ⟨cs2, cs3, e2, rfl, l2, c2⟩
    · exact .inr ⟨cs, cs', rfl, rfl, l1, c1⟩
    · cases e2
      exact .inr ⟨cs, cs3, rfl, rfl, l2.trans l1, fun j c hj => (c2 j c hj).elim .inl fun h => c1 j c h⟩
theorem Wk.dead {o o' : AO} (h : Wk o o') : o'.isDead = o.isDead := by
  rcases h with rfl | ⟨cs, cs', rfl, rfl, _⟩ <;> rfl

theorem Inv.weak (h : Inv E n C st a) {st' : St} (he : ∀ t, st'.env t = st.env t) (hw : ∀ r, Wk (st.heap r) (st'.heap r)) :
    Inv E n { C with heap := st'.heap } st' a ∧ Le C { C with heap := st'.heap } := by
  have hw' : ∀ r, Wk (C.heap r) (st'.heap r) := fun r => by rw [h.heap]; exact hw r
  have hc : Le C { C with heap := st'.heap } := by
    refine ⟨fun b off hf => ⟨hf, rfl⟩, fun _ h => h, fun r cs _ hr => ⟨?_, rfl⟩, fun r s rs _ hr => ⟨?_, rfl⟩, fun r ks vs _ hr => ⟨?_, rfl⟩⟩
    · rcases hw' r with h1 | ⟨c1, c2, _, h2, _⟩
      · exact ⟨cs, h1.trans hr⟩
      · exact ⟨c2, h2⟩
    · rcases hw' r with h1 | ⟨c1, c2, h1, _, _⟩
      · exact ⟨rs, h1.trans hr, rfl⟩
      · rw [hr] at h1; cases h1
    · rcases hw' r with h1 | ⟨c1, c2, h1, _, _⟩
      · exact ⟨ks, vs, h1.trans hr⟩
      · rw [hr] at h1; cases h1
  refine ⟨{ heap := rfl, env := fun t => by rw [he]; exact (h.env t).mono hc
            objs := fun r => ?_
            inj := fun r r' L L' hl hl' hr hr' hb => h.inj r r' L L' hl hl' (by rw [← (hw' r).dead]; exact hr) (by rw [← (hw' r').dead]; exact hr') hb
            fin := h.fin, gnew := h.gnew, gsub := h.gsub, par := h.par, fnew := h.fnew, frame := h.frame, marks := h.marks, mnd := h.mnd, fkeep := h.fkeep, stay := h.stay, wsz := h.wsz, mball := h.mball, size := h.size }, hc⟩
  rcases hw' r with h1 | ⟨c1, c2, h1, h2, h3, h4⟩
  · exact (h.objs r).mono hc ⟨fun _ _ _ _ _ => ⟨rfl, rfl, fun _ h => h⟩⟩ h1 rfl fun L _ _ => ⟨rfl, fun _ h => h, fun h => h⟩
  · have ho := h.objs r
    unfold ObjOk at ho ⊢
    rw [h1] at ho
    simp only [h2]
    obtain ⟨L, g1, ⟨cur, e, g, g2, g3⟩, g4, g5⟩ := ho
    refine ⟨L, g1, ⟨cur, e, g, g2, fun j c hj => ?_⟩, fun j hj => g4 j (h3 ▸ hj), g5⟩
    have hlt : j < c1.length := by rw [← h3]; exact (List.getElem?_eq_some_iff.1 hj).1
    obtain ⟨a1, a2, a3⟩ := g3 j c1[j] (by simp [hlt])
    refine ⟨a1, a2, ?_⟩
    rcases h4 j c hj with rfl | h5
    · exact .undef _
    · simp only [List.getElem?_eq_getElem hlt, Option.some.injEq] at h5
      subst h5
      exact a3.mono hc

theorem sameBut_cell {W : Nat → Nat → Prop} {w w' : World} {b off : Nat} (h : sameBut (W b) (w.heap[b]?) (w'.heap[b]?)) (hw : ¬ W b off) : w'.cell? ⟨b, off, none⟩ = w.cell? ⟨b, off, none⟩ := by
  cases ho : w.heap[b]? with
  | none =>
    rw [ho] at h
    exact World.cell?_of_block (a := ⟨b, off, none⟩) (by simp only [ho]; cases hq : w'.heap[b]? <;> rw [hq] at h <;> simp [sameBut] at h ⊢)
  | some o =>
    rw [ho] at h
    cases o with
    | cells c e fr =>
      cases hq : w'.heap[b]? with
      | none => rw [hq] at h; simp [sameBut] at h
      | some o' =>
        rw [hq] at h
        cases o' with
        | cells c' e' fr' =>
          simp only [sameBut] at h
          obtain ⟨_, _, _, h4⟩ := h
          rw [cell_of_row _ _ _ _ _ _ hq, cell_of_row _ _ _ _ _ _ ho]
          exact h4 off hw
        | _ => simp [sameBut] at h
    | _ =>
      exact World.cell?_of_block (a := ⟨b, off, none⟩) (by simp only [ho]; cases hq : w'.heap[b]? <;> rw [hq] at h <;> simp [sameBut] at h ⊢; exact h)

theorem Frame.trans {w0 w w' : World} {W V : Nat → Nat → Prop} (h : Frame w0 w W) (h' : Frame w w' V) (hv : ∀ b off, V b off → b < w0.heap.size → W b off) : Frame w0 w' W := by
  refine ⟨h'.os.trans h.os, h'.output.trans h.output, h'.tape.trans h.tape, Nat.le_trans h.size h'.size, fun b hb => ?_⟩
  have h1 := h.same b hb
  have h2 := h'.same b (Nat.lt_of_lt_of_le hb h.size)
  cases ho : w0.heap[b]? with
  | none =>
    rw [ho] at h1
    cases hq : w.heap[b]? with
    | none =>
      rw [hq] at h2
      cases hz : w'.heap[b]? with
      | none => rfl
      | some o => rw [hz] at h2; simp [sameBut] at h2
    | some o => rw [hq] at h1; simp [sameBut] at h1
  | some o =>
    rw [ho] at h1
    cases o with
    | cells c e fr =>
      cases hq : w.heap[b]? with
      | none => rw [hq] at h1; simp [sameBut] at h1
      | some o' =>
        rw [hq] at h1 h2
        cases o' with
        | cells c' e' fr' =>
          cases hz : w'.heap[b]? with
          | none => rw [hz] at h2; simp [sameBut] at h2
          | some o2 =>
            rw [hz] at h2
            cases o2 with
            | cells c2 e2 fr2 =>
              simp only [sameBut] at h1 h2 ⊢
              obtain ⟨a1, a2, a3, a4⟩ := h1
              obtain ⟨b1, b2, b3, b4⟩ := h2
              exact ⟨b1.trans a1, b2.trans a2, b3.trans a3, fun off hw => (b4 off fun hv' => hw (hv b off hv' hb)).trans (a4 off hw)⟩
            | _ => simp [sameBut] at h2
        | _ => simp [sameBut] at h1
    | _ =>
      have e1 := h1
      simp only [sameBut] at e1
      rw [e1] at h2
      cases hz : w'.heap[b]? <;> rw [hz] at h2 <;> simp [sameBut] at h2 ⊢
      exact h2

theorem sameBut_row {W : Nat → Prop} {o' : Option Obj} {cur : Array Value} {e : TypeId} (h : sameBut W (some (.cells cur e (0, 0))) o') :
    ∃ cur', o' = some (.cells cur' e (0, 0)) ∧ cur'.size = cur.size ∧ ∀ off, ¬ W off → cur'[off]? = cur[off]? := by
  cases o' with
  | none => simp [sameBut] at h
  | some o =>
    cases o with
    | cells c' e' fr' =>
      simp only [sameBut] at h
      obtain ⟨rfl, rfl, h3, h4⟩ := h
      exact ⟨c', rfl, h3, h4⟩
    | _ => simp [sameBut] at h

theorem sameBut_odd {W : Nat → Prop} {o : Obj} {o' : Option Obj} {b : Nat} (ho : KeepO E b o) (h : sameBut W (some o) o') : o' = some o := by
  cases o with
  | cells c e fr => cases ho
  | _ => exact h

theorem sameBut_eq {W : Nat → Prop} (hW : ∀ off, ¬ W off) : ∀ {o o' : Option Obj}, sameBut W o o' → o' = o := by
  intro o o' h
  cases o with
  | none => exact h
  | some o =>
    cases o with
    | cells c e fr =>
      cases o' with
      | none => simp [sameBut] at h
      | some o' =>
        cases o' with
        | cells c' e' fr' =>
          obtain ⟨h1, h2, h3, h4⟩ := h
          subst h1 h2
          have : c' = c := Array.ext_getElem? fun i => h4 i (hW i)
          rw [this]
        | _ => simp [sameBut] at h
    | _ => exact h

theorem Inv.world (h : Inv E n C st a) {w' : World} {W F' : Nat → Nat → Prop} (hx : Frame C.w w' W)
    (hWF : ∀ b off, W b off → ¬ C.F b off)
    (hWE : ∀ b off, W b off → E.w0.heap.size ≤ b ∨ E.Wr b off)
    (hF : ∀ b off, C.F b off → F' b off)
    (hF' : ∀ b off, F' b off → C.F b off ∨ (b < w'.heap.size ∧ C.G b ∧ (∀ r L, C.loc r = some L → (C.heap r).isDead = false → L.blk ≠ b) ∧ ∀ o, ¬ C.F b o))
    (hWe : ∀ b off, W b off → C.F b 0 → ¬ C.G b)
    (hmap : ∀ r ks vs L off, C.heap r = .mp ks vs → C.loc r = some L → ¬ W L.blk off)
    (hbox : ∀ r cs L j c, C.heap r = .box cs → C.loc r = some L → cs[j]? = some c → W L.blk (L.base + j) → c = .undef ∧ ∃ u, w'.cell? ⟨L.blk, L.base + j, none⟩ = some u ∧ u.oneCell' = true)
    (hrows : ∀ r s rs L off, C.heap r = .rows s rs → C.loc r = some L → ¬ W L.blk off) :
    Inv E n { C with w := w', F := F' } st a ∧ Le C { C with w := w', F := F' } := by
  have hc : Le C { C with w := w', F := F' } :=
    ⟨fun b off hf => ⟨hF b off hf, sameBut_cell (hx.same b (h.fin b off hf)) fun hw => hWF b off hw hf⟩, fun _ h => h, fun _ cs _ h => ⟨⟨cs, h⟩, rfl⟩, fun _ _ rs _ h => ⟨⟨rs, h, rfl⟩, rfl⟩, fun _ ks vs _ h => ⟨⟨ks, vs, h⟩, rfl⟩⟩
  have hh : Hist E { C with w := w', F := F' } a := h.hist hc.F (fun b o ho hb => sameBut_odd ho (by have := hx.same b (block_lt hb); rw [hb] at this; exact this)) hx.size
  refine ⟨{ heap := h.heap, env := fun t => (h.env t).mono hc
            objs := fun r => ?_
            inj := h.inj
            fin := fun b off hf => by
              rcases hF' b off hf with h1 | h1
              · exact Nat.lt_of_lt_of_le (h.fin b off h1) hx.size
              · exact h1.1
            gnew := h.gnew, gsub := h.gsub, par := h.par
            fnew := fun b off hf => by
              rcases hF' b off hf with h1 | h1
              · exact h.fnew b off h1
              · exact .inr h1.2.1
            frame := h.frame.trans hx fun b off hw hb => (hWE b off hw).resolve_left (Nat.not_le.2 hb)
            marks := hh.marks, mnd := hh.mnd, fkeep := hh.fkeep, stay := hh.stay, wsz := hh.wsz, mball := h.mball, size := h.size }, hc⟩
  have ho := h.objs r
  have hlt : ∀ L, C.loc r = some L → (C.heap r).isDead = false → L.blk < C.w.heap.size := fun L hl ha => (h.objs r).lt hl ha
  have hFr : ∀ L, C.loc r = some L → (C.heap r).isDead = false → ∀ off, F' L.blk off → C.F L.blk off := fun L hl ha off hf => (hF' _ _ hf).resolve_right fun hq => hq.2.2.1 r L hl ha rfl
  unfold ObjOk at ho ⊢
  cases hh : C.heap r with
  | dead => simp
  | box cs =>
    rw [hh] at ho
    simp only
    obtain ⟨L, g1, ⟨cur, e, g, g2, g3⟩, g4, g5⟩ := ho
    have al : (C.heap r).isDead = false := by rw [hh]; rfl
    have hs := hx.same _ (hlt L g1 al)
    rw [g2] at hs
    obtain ⟨cur', q1, q2, q3⟩ := sameBut_row hs
    refine ⟨L, g1, ⟨cur', e, fun j => (cur'[L.base + j]?).getD undef, q1, fun j c hj => ?_⟩, fun j hj => ⟨fun hf => (g4 j hj).1 (hFr L g1 al _ hf), (g4 j hj).2⟩,
      g5.imp (fun h1 off hf => h1 off (hFr L g1 al _ hf)) (fun h1 => h1)⟩
    obtain ⟨a1, a2, a3⟩ := g3 j c hj
    by_cases hw : W L.blk (L.base + j)
    · obtain ⟨rfl, u, u1, u2⟩ := hbox r cs L j c hh g1 hj hw
      rw [cell_of_row _ _ _ _ _ _ q1] at u1
      simp only [u1, Option.getD_some]
      exact ⟨trivial, u2, .undef _⟩
    · simp only [q3 _ hw, a1, Option.getD_some]
      exact ⟨trivial, a2, a3.mono hc⟩
  | rows s rs =>
    rw [hh] at ho
    simp only
    rcases ho with ho | ⟨L, g1, g0, g2, g3, g4, ⟨cur, e, g, g5, g6, g7⟩, g8, g9⟩
    · exact .inl ho
    · have al : (C.heap r).isDead = false := by rw [hh]; rfl
      have hs := hx.same _ (hlt L g1 al)
      rw [g5] at hs
      obtain ⟨cur', q1, q2, q3⟩ := sameBut_row hs
      refine .inr ⟨L, g1, g0, g2, g3, g4, ⟨cur', e, g, q1, q2.trans g6, fun i j c hij => ?_⟩, fun off => ⟨fun hf => (g8 off).1 (hFr L g1 al _ hf), (g8 off).2⟩, g9⟩
      obtain ⟨a1, a2, a3, a4⟩ := g7 i j c hij
      exact ⟨(q3 _ (hrows r s rs L _ hh g1)).trans a1, a2, a3, a4.mono hc⟩
  | mp ks vs =>
    rw [hh] at ho
    simp only
    obtain ⟨L, g1, g2⟩ := ho
    have al : (C.heap r).isDead = false := by rw [hh]; rfl
    refine ⟨L, g1, g2.mono hc ⟨fun b _ _ hF hG => ⟨rfl, ?_, fun off hf => (hF' b off hf).resolve_right fun hq => hq.2.2.2 0 hF⟩⟩ ?_ (hFr L g1 al)⟩
    · exact sameBut_eq (fun off hw => hWe b off hw hF hG) (hx.same b (h.fin b 0 hF))
    · exact sameBut_eq (fun off hw => hmap r ks vs L off hh g1 hw) (hx.same _ (hlt L g1 al))

end Go.Ab

namespace Go.Ab
open Go

variable {E : Ent} {n : Sz} {C : Ctx} {st : St} {a : Act} {P : Program}

def blkOf (C : Ctx) (r : Nat) : Option Nat := (C.loc r).map (·.blk)

theorem blkOf_some {r : Nat} {L : Loc} (h : C.loc r = some L) : blkOf C r = some L.blk := by simp [blkOf, h]

theorem okGiven_other {c : V} (h : V.okGiven c = true) (hne : ∀ s rows, c ≠ .own s rows) : c.closed = true ∧ (∀ vs, c ≠ .tup vs) ∧ (∀ vs, c ≠ .agg vs) := by
  unfold V.okGiven at h
  split at h
  · exact absurd rfl (hne _ _)
  · simp only [Bool.and_eq_true] at h
    refine ⟨h.1, fun vs e => ?_, fun vs e => ?_⟩ <;> subst e <;> simp at h

theorem giveC_other {c : V} (h : ∀ r k, c ≠ .sref r 0 k) (h' : ∀ s, c ≠ .nils s) (h2 : ∀ r, c ≠ .mp r) : giveC st c = c := by
  unfold giveC; split
  · exact absurd rfl (h _ _)
  · exact absurd rfl (h' _)
  · exact absurd rfl (h2 _)
  · rfl

def okGood (good : V → Bool) : V → Bool
  | .own _ rows => rows.all (·.all good)
  | .ownm _ vs => vs.all fun v => v.closed && good v
  | v => v.closed && good v && (match v with | .tup _ => false | .agg _ => false | _ => true)

theorem okGood_other {good : V → Bool} {c : V} (h : okGood good c = true) (hne : ∀ s rows, c ≠ .own s rows) (hnm : ∀ ks vs, c ≠ .ownm ks vs) : c.closed = true ∧ good c = true ∧ (∀ vs, c ≠ .tup vs) ∧ (∀ vs, c ≠ .agg vs) := by
  unfold okGood at h
  split at h
  · exact absurd rfl (hne _ _)
  · exact absurd rfl (hnm _ _)
  · simp only [Bool.and_eq_true] at h
    refine ⟨h.1.1, h.1.2, fun vs e => ?_, fun vs e => ?_⟩ <;> subst e <;> simp at h

theorem EntOk.value {r j : Nat} {v : V} {u : Value} (h : EntOk E C r j v u) : v.unown.closed = true ∧ R C v.unown u := by
  by_cases hv : ∃ s rows, v = .own s rows
  · obtain ⟨s, rows, rfl⟩ := hv
    obtain ⟨b, cap, cur, e, g, rfl, h2, h3, h4, h5, h6, h7, h8, h9, h10, h11, h12, h13⟩ := h
    refine ⟨rfl, .sl true s rows b 0 cap g h4 h5 h6 (fun _ _ => h11) (fun i j c hij => ?_) (fun i j c hij => (h9 i j c hij).2.2.2.1) (fun i j c hij => (h9 i j c hij).2.2.2.2)⟩
    obtain ⟨a1, a2, a3, a4, a5⟩ := h9 i j c hij
    exact ⟨by rw [cell_of_row _ _ _ _ _ _ h7, Nat.zero_add]; exact a1, by rw [Nat.zero_add]; exact a3, a2⟩
  · have hne : ∀ s rows, v ≠ .own s rows := fun s rows e => hv ⟨s, rows, e⟩
    rw [EntOk.other hne] at h
    have : v.unown = v := by unfold V.unown; split <;> first | exact absurd rfl (hne _ _) | rfl
    rw [this]; exact h

structure Given (C B : Ctx) (v : V) (u : Value) (os : List Nat) : Prop where
  r : RB1 B v u
  owns : (owns1 v u).Sublist (os.filterMap (blkOf C))

theorem give_good (h : Inv E n C st a) {B : Ctx} {good : V → Bool} (hw : B.w = C.w) (hcl : ∀ c u, R C c u → c.closed = true → good c = true → R B c u) {c : V} {u : Value} (hR : R C c u) (hok : okGood good (giveC st c) = true) :
    Given C B (giveC st c) u (objC c) := by
  by_cases h1 : ∃ r k, c = .sref r 0 k
  · obtain ⟨r, k, rfl⟩ := h1
    simp only [giveC] at hok ⊢
    cases hh : st.heap r with
    | dead => simp [hh, okGood, V.closed] at hok
    | box cs => simp [hh, okGood, V.closed] at hok
    | mp ks vs => simp [hh, okGood, V.closed] at hok
    | rows s rs =>
      simp only [hh] at hok ⊢
      by_cases hk : k = rs.length
      · simp only [hk, if_true] at hok ⊢
        subst hk
        simp only [okGood, List.all_eq_true] at hok
        have hgood : ∀ i j c, at2 rs i j = some c → good c = true := fun i j c hij => by
          obtain ⟨hi, hj⟩ := at2_lt hij
          exact hok _ (List.getElem_mem hi) _ (List.mem_of_getElem? hj)
        have ho := h.objs r
        have hC : C.heap r = .rows s rs := by rw [h.heap]; exact hh
        unfold ObjOk at ho
        rw [hC] at ho
        have fst : ∀ u, ((rs = []) ∧ (u = Value.slice none 0 0 ∨ ∃ b off, u = .slice (some ⟨b, off, none⟩) 0 0)) → Given C B (.own s rs) u (objC (.sref r 0 rs.length)) := by
          rintro u ⟨rfl, hu⟩
          refine ⟨by rw [RB1_own, OwnR_iff]; exact .inl ⟨rfl, hu⟩, ?_⟩
          rcases hu with rfl | ⟨b, off, rfl⟩ <;> simp [owns1]
        have nil_of : rs.length = 0 → rs = [] := List.eq_nil_of_length_eq_zero
        generalize hke : rs.length = k0 at hR
        cases hR with
        | sref _ _ _ s' rs' L q1 q2 q3 =>
          rw [hC] at q1; cases q1
          rcases ho with ⟨_, ho⟩ | ⟨L', hl', g0, g1, g2, g3, ⟨cur, e, g, g4, g5, g6⟩, g7, g8⟩
          · rw [q2] at ho; cases ho
          rw [q2] at hl'; cases hl'
          by_cases hcap : L.cap = 0
          · refine fst _ ⟨nil_of (by omega), .inr ⟨L.blk, 0, ?_⟩⟩
            have : rs.length = 0 := by omega
            simp [← hke, this, hcap]
          · refine ⟨?_, ?_⟩
            · rw [RB1_own, OwnR_iff]
              refine .inr ⟨L.blk, L.cap, by simp [hke], Nat.pos_of_ne_zero hcap, g1, g2, g3, cur, e, g, by rw [hw]; exact g4, g5, fun i j c hij => ?_⟩
              obtain ⟨a1, a2, a3, a4⟩ := g6 i j c hij
              exact ⟨a1, a2, a3, hcl _ _ a4 a3 (hgood i j c hij)⟩
            · simp [owns1, objC, blkOf_some q2, hcap]
        | srefNil _ s' q1 q2 =>
          exact fst _ ⟨nil_of hke, .inl rfl⟩
        | srefZ _ _ s' rs' b off q1 q2 =>
          exact fst _ ⟨nil_of hke, .inr ⟨b, off, rfl⟩⟩
      · simp only [hk, if_false] at hok
        simp [okGood, V.closed] at hok
  · by_cases h2 : ∃ s, c = .nils s
    · obtain ⟨s, rfl⟩ := h2
      simp only [giveC]
      cases hR with
      | nils => exact ⟨by rw [RB1_own, OwnR_iff]; exact .inl ⟨rfl, .inl rfl⟩, by simp [owns1]⟩
      | nilsSome _ b off => exact ⟨by rw [RB1_own, OwnR_iff]; exact .inl ⟨rfl, .inr ⟨b, off, rfl⟩⟩, by simp [owns1]⟩
    · by_cases h3 : ∃ r, c = .mp r
      · obtain ⟨r, rfl⟩ := h3
        cases hR with
        | mp _ ks vs L q1 q2 =>
          have hh : st.heap r = .mp ks vs := by rw [← h.heap]; exact q1
          simp only [giveC, hh] at hok ⊢
          have ho := h.objs r
          unfold ObjOk at ho
          rw [q1] at ho
          obtain ⟨L', hl', ⟨clock, ents, g1, g2, g3, g4, g5⟩, g6, g7⟩ := ho
          rw [q2] at hl'; cases hl'
          simp only [okGood, List.all_eq_true, Bool.and_eq_true] at hok
          refine ⟨⟨L.blk, clock, ents, rfl, by rw [hw]; exact g1, g2, by simpa using g3, fun j k hj => ?_, fun j v hj => ?_⟩, by simp [owns1, objC, blkOf_some q2]⟩
          · obtain ⟨a1, e, a2, a3⟩ := g4 j k hj
            refine ⟨a1, e, a2, ?_⟩
            generalize e.key = ek at a3
            cases a3 <;> simp [V.keyOk] at a1 <;> constructor
          · have hm := hok v (List.mem_of_getElem? hj)
            simp only [List.getElem?_map, Option.map_eq_some_iff] at hj
            obtain ⟨v', hj, rfl⟩ := hj
            obtain ⟨e, a2, a3⟩ := g5 j v' hj
            obtain ⟨b1, b2⟩ := a3.value
            exact ⟨b1, e, a2, hcl _ _ b2 b1 hm.2⟩
      have e := giveC_other (st := st) (c := c) (fun r k e => h1 ⟨r, k, e⟩) (fun s e => h2 ⟨s, e⟩) (fun r e => h3 ⟨r, e⟩)
      rw [e] at hok ⊢
      have hne : ∀ s rows, c ≠ .own s rows := fun s rows e => by subst e; cases hR
      have hnm : ∀ ks vs, c ≠ .ownm ks vs := fun s rows e => by subst e; cases hR
      obtain ⟨k1, k2, _, _⟩ := okGood_other hok hne hnm
      refine ⟨by rw [RB1_other hne hnm]; exact hcl _ _ hR k1 k2, ?_⟩
      have : owns1 c u = [] := by unfold owns1; split <;> first | exact absurd rfl (hne _ _) | exact absurd rfl (hnm _ _) | rfl
      rw [this]; exact List.nil_sublist _

theorem okGiven_sh {v : V} (h : V.okGiven v.sh = true) : okGood (fun _ => true) v = true := by
  by_cases hv : ∃ s rows, v = .own s rows
  · obtain ⟨s, rows, rfl⟩ := hv
    simp [okGood]
  · have hne : ∀ s rows, v.sh ≠ .own s rows := fun s rows e => by
      cases v <;> simp only [V.sh] at e <;> first | exact hv ⟨_, _, rfl⟩ | cases e
    obtain ⟨h1, h2, h3⟩ := okGiven_other h hne
    have h1' := closed_of_sh _ h1
    cases v <;> simp_all [okGood, V.sh, V.closed]

theorem give_sound (h : Inv E n C st a) {Φ : Nat → Nat → Prop} (hΦ : ∀ b off, C.F b off → Φ b off) {c : V} {u : Value} (hR : R C c u) (hok : V.okGiven (giveC st c).sh = true) :
    Given C (bare C.w Φ C.G) (giveC st c).sh u (objC c) := by
  obtain ⟨h1, h2⟩ := give_good h (B := bare C.w Φ C.G) (good := fun _ => true) rfl (fun c u hr hc _ => R.of_closed (C := C) (C' := bare C.w Φ C.G) (fun _ _ hf => ⟨hΦ _ _ hf, rfl⟩) (fun _ h => h) hr hc) hR (okGiven_sh hok)
  exact ⟨RB1_shG h1 C.G, by rw [owns1_sh]; exact h2⟩

theorem give_live' {good : V → Bool} {c : V} (hok : okGood good (giveC st c) = true) : ∀ r ∈ objC c, (∃ s rs, st.heap r = .rows s rs) ∨ ∃ ks vs, st.heap r = .mp ks vs := by
  intro r hr
  cases c with
  | sref r' i k =>
    simp only [objC, List.mem_singleton] at hr
    subst hr
    cases i with
    | zero =>
      simp only [giveC] at hok
      cases hh : st.heap r with
      | rows s rs => exact .inl ⟨s, rs, rfl⟩
      | _ => simp [hh, okGood, V.closed] at hok
    | succ i => simp [giveC, okGood, V.closed] at hok
  | mp r' =>
    simp only [objC, List.mem_singleton] at hr
    subst hr
    simp only [giveC] at hok
    cases hh : st.heap r with
    | mp ks vs => exact .inr ⟨ks, vs, rfl⟩
    | _ => simp [hh, okGood, V.closed] at hok
  | _ => simp [objC] at hr

theorem give_live {c : V} (hok : V.okGiven (giveC st c).sh = true) : ∀ r ∈ objC c, ∃ s rs, st.heap r = .rows s rs := by
  intro r hr
  cases c with
  | sref r' i k =>
    simp only [objC, List.mem_singleton] at hr
    subst hr
    cases i with
    | zero =>
      simp only [giveC] at hok
      cases hh : st.heap r with
      | rows s rs => exact ⟨s, rs, rfl⟩
      | _ => simp [hh, V.sh, V.okGiven, V.closed] at hok
    | succ i => simp [giveC, V.sh, V.okGiven, V.closed] at hok
  | mp r' =>
    simp only [giveC] at hok
    cases hh : st.heap r' <;> simp [hh, V.sh, V.okGiven, V.closed] at hok
  | _ => simp [objC] at hr

theorem ownsL_give : ∀ (l : List V) (us : List Value) (f : V → V), l.length = us.length → (∀ (j : Nat) (c : V), l[j]? = some c → (owns1 (f c) (us.getD j undef)).Sublist ((objC c).filterMap (blkOf C))) →
    (ownsL (l.map f) us).Sublist ((l.flatMap objC).filterMap (blkOf C))
  | [], [], _, _, _ => by simp [ownsL]
  | [], _ :: _, _, hl, _ => by simp at hl
  | _ :: _, [], _, hl, _ => by simp at hl
  | c :: l, u :: us, f, hl, hr => by
    simp only [List.map_cons, ownsL, List.flatMap_cons, List.filterMap_append]
    refine List.Sublist.append (by simpa using hr 0 c rfl) (ownsL_give l us f (by simpa using hl) fun j c hj => by simpa using hr (j + 1) c (by simpa using hj))

theorem cellsAt_len (w : World) (b base k : Nat) : (cellsAt w b base k).length = k := by simp [cellsAt]
theorem cellsAt_get (w : World) (b base k j : Nat) (hj : j < k) : (cellsAt w b base k).getD j undef = (w.cell? ⟨b, base + j, none⟩).getD undef := by
  simp [cellsAt, List.getD, List.getElem?_map, List.getElem?_range hj]

structure Handed (C : Ctx) (st : St) (Φ : Nat → Nat → Prop) (p : Pm) (v : V) (u : Value) : Prop where
  r : RA (bare C.w Φ C.G) v u
  owns : (ownsA C.w v u).Sublist ((p.gone st).filterMap (blkOf C))
  box : (boxA v u).Sublist ((p.box st).filterMap (blkOf C))
  cells : ∀ b off, boxC v u b off → ∃ x k r o L cs, p = .io x k ∧ x.ev st = .ptr r o ∧ st.heap r = .box cs ∧ o + k ≤ cs.length ∧ C.loc r = some L ∧ b = L.blk ∧ L.base + o ≤ off ∧ off < L.base + o + k
  live : ∀ r ∈ p.gone st, ∃ s rs, st.heap r = .rows s rs
  boxes : ∀ r ∈ p.box st, ∃ cs, st.heap r = .box cs
  io : ∀ x k, p = .io x k → ∃ r o L cs, x.ev st = .ptr r o ∧ st.heap r = .box cs ∧ o + k ≤ cs.length ∧ C.loc r = some L ∧ u = .pointer (some ⟨L.blk, L.base + o, none⟩) ∧ ∃ cv, v = .io cv

theorem RA_other {v : V} {u : Value} (h : ∀ cs, v ≠ .io cs) : RA C v u = RB1 C v u := by
  unfold RA; split <;> first | exact absurd rfl (h _) | rfl
theorem ownsA_other {w : World} {v : V} {u : Value} (h : ∀ cs, v ≠ .io cs) : ownsA w v u = owns1 v u := by
  unfold ownsA; split <;> first | exact absurd rfl (h _) | rfl
theorem boxA_other {v : V} {u : Value} (h : ∀ cs, v ≠ .io cs) : boxA v u = [] := by
  unfold boxA; split <;> first | exact absurd rfl (h _) | rfl
theorem boxC_other {v : V} {u : Value} {b off : Nat} (h : ∀ cs, v ≠ .io cs) : ¬ boxC v u b off := by
  unfold boxC; split <;> first | exact absurd rfl (h _) | exact fun h => h
theorem owns1_other {v : V} {u : Value} (h : ∀ s rows, v ≠ .own s rows) (h' : ∀ ks vs, v ≠ .ownm ks vs) : owns1 v u = [] := by
  unfold owns1; split <;> first | exact absurd rfl (h _ _) | exact absurd rfl (h' _ _) | rfl

theorem Inv.hand (h : Inv E n C st a) {Φ : Nat → Nat → Prop} (hΦ : ∀ b off, C.F b off → Φ b off) {sr : St} {p : Pm} {u : Value} (hp : R C (p.x.ev st) u) (hok : p.ok sr st = true)
    (hro : ∀ x, p = .ro x → ((frz sr 4 (x.ev sr)).sh).closed = true → R (bare C.w Φ C.G) ((frz sr 4 (x.ev sr)).sh) u) : Handed C st Φ p (p.val sr st) u := by
  cases p with
  | ro x =>
    simp only [Pm.ok, Pm.val] at hok
    have hR := hro x rfl hok
    have n1 : ∀ cs, (Pm.ro x).val sr st ≠ .io cs := fun cs e => by simp only [Pm.val] at e; rw [e] at hok; simp [V.closed] at hok
    have n2 : ∀ s rows, (Pm.ro x).val sr st ≠ .own s rows := fun s rows e => by simp only [Pm.val] at e; rw [e] at hok; simp [V.closed] at hok
    have n3 : ∀ ks vs, (Pm.ro x).val sr st ≠ .ownm ks vs := fun s rows e => by simp only [Pm.val] at e; rw [e] at hok; simp [V.closed] at hok
    exact ⟨by rw [RA_other n1, RB1_other n2 n3]; exact hR, by rw [ownsA_other n1, owns1_other n2 n3]; simp, by rw [boxA_other n1]; simp, fun b off hb => absurd hb (boxC_other n1), fun r hr => by simp [Pm.gone] at hr, fun r hr => by simp [Pm.box] at hr, fun x k e => by cases e⟩
  | mv x s =>
    have hR : R C (x.ev st) u := hp
    have hown : ∃ s rows, (giveC st (x.ev st)).sh = .own s rows := by
      simp only [Pm.ok, Pm.val] at hok
      split at hok <;> first | exact ⟨_, _, by assumption⟩ | simp_all
    obtain ⟨s', rows, ho⟩ := hown
    have hg := give_sound h hΦ hR (by rw [ho]; rfl)
    have n1 : ∀ cs, (Pm.mv x s).val sr st ≠ .io cs := fun cs e => by simp only [Pm.val] at e; rw [ho] at e; cases e
    exact ⟨by rw [RA_other n1]; exact hg.r, by rw [ownsA_other n1]; exact hg.owns, by rw [boxA_other n1]; simp, fun b off hb => absurd hb (boxC_other n1), give_live (by rw [ho]; rfl), fun r hr => by simp [Pm.box] at hr, fun x k e => by cases e⟩
  | io x k =>
    have hR : R C (x.ev st) u := hp
    simp only [Pm.ok] at hok
    simp only [Pm.val] at hok ⊢
    cases hx : x.ev st with
    | ptr r o =>
      simp only [hx] at hok ⊢
      cases hh : st.heap r with
      | box cs =>
        simp only [hh] at hok ⊢
        by_cases hlen : o + k ≤ cs.length
        · simp only [hlen, if_true] at hok ⊢
          rw [hx] at hR
          have hC : C.heap r = .box cs := by rw [h.heap]; exact hh
          cases hR with
          | ptr _ _ cs' L q1 q2 =>
            rw [hC] at q1; cases q1
            have ho := h.objs r
            unfold ObjOk at ho
            rw [hC] at ho
            obtain ⟨L', hl', ⟨cur, e, g, g2, g3⟩, _⟩ := ho
            rw [q2] at hl'; cases hl'
            have hgive : ∀ (j : Nat) (c : V), ((cs.drop o).take k)[j]? = some c → j < k ∧ cur[L.base + o + j]? = some (g (o + j)) ∧ (g (o + j)).oneCell' = true ∧ R C c (g (o + j)) ∧ V.okGiven (giveC st c).sh = true := fun j c hj => by
              obtain ⟨h1, h2⟩ := getElem?_seg hj
              obtain ⟨a1, a2, a3⟩ := g3 _ c h1
              refine ⟨h2, by rw [Nat.add_assoc]; exact a1, a2, a3, ?_⟩
              exact List.all_eq_true.1 hok _ (List.mem_map_of_mem (List.mem_of_getElem? hj))
            have hl : ((cs.drop o).take k).length = k := by simp; omega
            refine ⟨?_, ?_, ?_, ?_, ?_, ?_, ?_⟩
            · refine ⟨L.blk, L.base + o, cur, e, fun j => g (o + j), rfl, g2, fun j c hj => ?_⟩
              simp only [List.getElem?_map, Option.map_eq_some_iff] at hj
              obtain ⟨c', h1, rfl⟩ := hj
              obtain ⟨_, b1, b2, b3, b4⟩ := hgive j c' h1
              exact ⟨b1, b2, (give_sound h hΦ b3 b4).r⟩
            · have eg : Pm.gone st (.io x k) = ((cs.drop o).take k).flatMap objC := by simp [Pm.gone, hx, hh]
              rw [eg]
              show (ownsL (((cs.drop o).take k).map fun c => (giveC st c).sh) (cellsAt C.w L.blk (L.base + o) (((cs.drop o).take k).map fun c => (giveC st c).sh).length)).Sublist _
              refine ownsL_give _ _ (fun c => (giveC st c).sh) (by rw [List.length_map, cellsAt_len]) fun j c hj => ?_
              obtain ⟨b0, b1, b2, b3, b4⟩ := hgive j c hj
              rw [List.length_map, hl, cellsAt_get _ _ _ _ _ b0, cell_of_row _ _ _ _ _ _ g2, b1]
              exact (give_sound h (Φ := C.F) (fun _ _ h => h) b3 b4).owns
            · have eb : Pm.box st (.io x k) = [r] := by simp [Pm.box, hx]
              rw [eb]
              simp [boxA, blkOf_some q2]
            · intro b off hb
              simp only [boxC, List.length_map, hl] at hb
              exact ⟨x, k, r, o, L, cs, rfl, hx, hh, hlen, q2, hb.1, hb.2.1, hb.2.2⟩
            · intro r' hr'
              have eg : Pm.gone st (.io x k) = ((cs.drop o).take k).flatMap objC := by simp [Pm.gone, hx, hh]
              rw [eg, List.mem_flatMap] at hr'
              obtain ⟨c, hc, hr'⟩ := hr'
              obtain ⟨j, hj⟩ := List.getElem?_of_mem hc
              exact give_live (hgive j c hj).2.2.2.2 r' hr'
            · intro r' hr'
              have eb : Pm.box st (.io x k) = [r] := by simp [Pm.box, hx]
              rw [eb, List.mem_singleton] at hr'
              subst hr'
              exact ⟨cs, hh⟩
            · intro x' k' e'
              cases e'
              exact ⟨r, o, L, cs, hx, hh, hlen, q2, rfl, _, rfl⟩
        · simp [hlen] at hok
      | _ => simp [hh] at hok
    | _ => simp [hx] at hok

inductive HandedL (C : Ctx) (st : St) (Φ : Nat → Nat → Prop) : List Pm → List V → List Value → Prop where
  | nil : HandedL C st Φ [] [] []
  | cons {p v u ps vs us} (h : Handed C st Φ p v u) (t : HandedL C st Φ ps vs us) : HandedL C st Φ (p :: ps) (v :: vs) (u :: us)

theorem Inv.handL (h : Inv E n C st a) {Φ : Nat → Nat → Prop} (hΦ : ∀ b off, C.F b off → Φ b off) {sr : St} : ∀ {args : List Pm} {us : List Value}, args.length = us.length → (∀ (i : Nat) (p : Pm), args[i]? = some p → R C (p.x.ev st) (us.getD i undef)) → args.all (·.ok sr st) = true →
    (∀ (i : Nat) x, args[i]? = some (.ro x) → ((frz sr 4 (x.ev sr)).sh).closed = true → R (bare C.w Φ C.G) ((frz sr 4 (x.ev sr)).sh) (us.getD i undef)) → HandedL C st Φ args (args.map (·.val sr st)) us
  | [], [], _, _, _, _ => .nil
  | [], _ :: _, h1, _, _, _ => by simp at h1
  | _ :: _, [], h1, _, _, _ => by simp at h1
  | p :: ps, u :: us, h1, h1', h2, h3 => by
    simp only [List.all_cons, Bool.and_eq_true] at h2
    exact .cons (h.hand hΦ (by simpa using h1' 0 p rfl) h2.1 fun x e hc => by simpa using h3 0 x (by simp [e]) hc)
      (h.handL hΦ (by simpa using h1) (fun i p hp => by simpa using h1' (i + 1) p (by simpa using hp)) h2.2 fun i x hm hc => by simpa using h3 (i + 1) x (by simpa using hm) hc)

theorem HandedL.len {Φ : Nat → Nat → Prop} {ps : List Pm} {vs : List V} {us : List Value} (h : HandedL C st Φ ps vs us) : vs.length = us.length ∧ ps.length = vs.length := by
  induction h with
  | nil => exact ⟨rfl, rfl⟩
  | cons _ _ ih => simp [ih.1, ih.2]

theorem HandedL.get {Φ : Nat → Nat → Prop} {ps : List Pm} {vs : List V} {us : List Value} (h : HandedL C st Φ ps vs us) : ∀ (i : Nat) (v : V), vs[i]? = some v → RA (bare C.w Φ C.G) v (us.getD i undef) := by
  induction h with
  | nil => intro i v hi; simp at hi
  | cons h _ ih =>
    intro i v hi
    cases i with
    | zero => simp at hi; subst hi; simpa using h.r
    | succ i => simpa using ih i v (by simpa using hi)

theorem HandedL.live {Φ : Nat → Nat → Prop} {ps : List Pm} {vs : List V} {us : List Value} (h : HandedL C st Φ ps vs us) : (∀ r ∈ ps.flatMap (·.gone st), ∃ s rs, st.heap r = .rows s rs) ∧ (∀ r ∈ ps.flatMap (·.box st), ∃ cs, st.heap r = .box cs) := by
  induction h with
  | nil => simp
  | cons h _ ih =>
    simp only [List.flatMap_cons, List.mem_append]
    exact ⟨fun r hr => hr.elim (h.live r) (ih.1 r), fun r hr => hr.elim (h.boxes r) (ih.2 r)⟩

theorem HandedL.io {Φ : Nat → Nat → Prop} {ps : List Pm} {vs : List V} {us : List Value} (h : HandedL C st Φ ps vs us) : ∀ (i : Nat) (x : X) (k : Nat), ps[i]? = some (.io x k) →
    ∃ r o L cs, x.ev st = .ptr r o ∧ st.heap r = .box cs ∧ o + k ≤ cs.length ∧ C.loc r = some L ∧ us.getD i undef = .pointer (some ⟨L.blk, L.base + o, none⟩) ∧ ∃ cv, vs[i]? = some (.io cv) := by
  induction h with
  | nil => intro i x k hi; simp at hi
  | cons h _ ih =>
    intro i x k hi
    cases i with
    | zero =>
      simp only [List.getElem?_cons_zero, Option.some.injEq] at hi
      obtain ⟨r, o, L, cs, h1, h2, h3, h4, h5, cv, h6⟩ := h.io x k hi
      exact ⟨r, o, L, cs, h1, h2, h3, h4, by simpa using h5, cv, by simp [h6]⟩
    | succ i => simpa using ih i x k (by simpa using hi)

theorem HandedL.owns {Φ : Nat → Nat → Prop} {ps : List Pm} {vs : List V} {us : List Value} (h : HandedL C st Φ ps vs us) : (listA (ownsA C.w) vs us).Sublist ((ps.flatMap (·.gone st)).filterMap (blkOf C)) := by
  induction h with
  | nil => simp [listA]
  | cons h _ ih => simp only [listA, List.flatMap_cons, List.filterMap_append]; exact h.owns.append ih

theorem HandedL.box {Φ : Nat → Nat → Prop} {ps : List Pm} {vs : List V} {us : List Value} (h : HandedL C st Φ ps vs us) : (listA boxA vs us).Sublist ((ps.flatMap (·.box st)).filterMap (blkOf C)) := by
  induction h with
  | nil => simp [listA]
  | cons h _ ih => simp only [listA, List.flatMap_cons, List.filterMap_append]; exact h.box.append ih

theorem HandedL.cells {Φ : Nat → Nat → Prop} {ps : List Pm} {vs : List V} {us : List Value} (h : HandedL C st Φ ps vs us) {b off : Nat} : anyC vs us b off → ∃ x k r o L cs, .io x k ∈ ps ∧ x.ev st = .ptr r o ∧ st.heap r = .box cs ∧ o + k ≤ cs.length ∧ C.loc r = some L ∧ b = L.blk ∧ L.base + o ≤ off ∧ off < L.base + o + k := by
  induction h with
  | nil => intro h; exact absurd h (by simp [anyC])
  | cons h _ ih =>
    intro hc
    simp only [anyC] at hc
    rcases hc with hc | hc
    · obtain ⟨x, k, r, o, L, cs, rfl, h2⟩ := h.cells b off hc
      exact ⟨x, k, r, o, L, cs, by simp, h2⟩
    · obtain ⟨x, k, r, o, L, cs, h1, h2⟩ := ih hc
      exact ⟨x, k, r, o, L, cs, by simp [h1], h2⟩

end Go.Ab

namespace Go.Ab
open Go

variable {E : Ent} {n : Sz} {C : Ctx} {st : St} {a : Act} {P : Program}

theorem kills_box {l : List Nat} {r : Nat} {cs : List V} (hr : r ∉ l) (h : st.heap r = .box cs) : ∃ cs', (st.kills l).heap r = .box cs' ∧ cs'.length = cs.length := by
  cases l with
  | nil => exact ⟨cs, h, rfl⟩
  | cons k l =>
    have : inl (k :: l) r = false := by rw [← Bool.not_eq_true, inl_iff]; exact hr
    exact ⟨cs.map (V.kill1 (inl (k :: l))), by simp [St.kills, St.killP, this, h, AO.kill], by simp⟩
theorem kills_rows {l : List Nat} {r s : Nat} {rs : List (List V)} (hr : r ∉ l) (h : st.heap r = .rows s rs) : (st.kills l).heap r = .rows s rs := by
  cases l with
  | nil => exact h
  | cons k l =>
    have : inl (k :: l) r = false := by rw [← Bool.not_eq_true, inl_iff]; exact hr
    simp [St.kills, St.killP, this, h, AO.kill]
theorem kills_mem {l : List Nat} {r : Nat} (hr : r ∈ l) : (st.kills l).heap r = .dead := by
  cases l with
  | nil => simp at hr
  | cons k l => simp [St.kills, St.killP, inl_iff.2 hr]
theorem kills_dead {l : List Nat} {r : Nat} (h : (st.heap r).isDead = true) : ((st.kills l).heap r).isDead = true := by
  cases l with
  | nil => exact h
  | cons k l =>
    simp only [St.kills, St.killP]
    split
    · rfl
    · cases hh : st.heap r <;> rw [hh] at h <;> simp [AO.isDead] at h ⊢
      rfl
theorem kills_live {l : List Nat} {r : Nat} (h : ((st.kills l).heap r).isDead = false) : r ∉ l ∧ (st.heap r).isDead = false := by
  refine ⟨fun hr => by rw [kills_mem hr] at h; simp [AO.isDead] at h, ?_⟩
  rw [← Bool.not_eq_true]
  intro hd
  rw [kills_dead hd] at h; cases h


theorem blank_wk {r off k : Nat} {cs : List V} {s : St} (hh : s.heap r = .box cs) (hl : off + k ≤ cs.length) :
    (∀ t, (s.blank r off k).env t = s.env t) ∧ (∀ q, Wk (s.heap q) ((s.blank r off k).heap q)) ∧ ∃ cs', (s.blank r off k).heap r = .box cs' ∧ ∀ (j : Nat) (c : V), cs'[j]? = some c → off ≤ j → j < off + k → c = .undef := by
  have hl' : off + (List.replicate k V.undef).length ≤ cs.length := by simpa using hl
  obtain ⟨s1, s2⟩ := setR_spec hl'
  have e : s.blank r off k = s.set r (.box (setR cs off (List.replicate k .undef))) := by simp [St.blank, hh]
  rw [e]
  refine ⟨fun t => rfl, fun q => ?_, setR cs off (List.replicate k .undef), by simp [St.set, upd], fun j c hj h1 h2 => ?_⟩
  · by_cases hq : q = r
    · subst hq
      refine .inr ⟨cs, _, hh, by simp [St.set, upd], s1, fun j c hj => ?_⟩
      rw [s2] at hj
      split at hj
      · simp only [List.getElem?_replicate] at hj
        split at hj
        · simp at hj; exact .inl hj.symm
        · cases hj
      · exact .inr hj
    · exact .inl (by simp [St.set, upd, hq])
  · rw [s2] at hj
    simp only [List.length_replicate] at hj
    rw [if_pos ⟨h1, h2⟩] at hj
    simp only [List.getElem?_replicate] at hj
    split at hj
    · simp at hj; exact hj.symm
    · cases hj

theorem blanks_spec : ∀ (ps : List Pm) (s : St), (∀ x k, Pm.io x k ∈ ps → ∃ r o cs, x.ev st = .ptr r o ∧ s.heap r = .box cs ∧ o + k ≤ cs.length) →
    (∀ t, (blanks st ps s).env t = s.env t) ∧ (∀ q, Wk (s.heap q) ((blanks st ps s).heap q)) ∧
    ∀ x k r o cs j c, Pm.io x k ∈ ps → x.ev st = .ptr r o → (blanks st ps s).heap r = .box cs → o ≤ j → j < o + k → cs[j]? = some c → c = .undef
  | [], s, _ => ⟨fun _ => rfl, fun _ => .refl _, fun _ _ _ _ _ _ _ h => by simp at h⟩
  | p :: ps, s, h => by
    cases p with
    | io x k =>
      obtain ⟨r, o, cs, h1, h2, h3⟩ := h x k (by simp)
      obtain ⟨b1, b2, cs', b3, b4⟩ := blank_wk h2 h3
      have e : blanks st (.io x k :: ps) s = blanks st ps (s.blank r o k) := by simp [blanks, h1]
      rw [e]
      obtain ⟨i1, i2, i3⟩ := blanks_spec ps (s.blank r o k) fun x' k' hm => by
        obtain ⟨r', o', cs2, q1, q2, q3⟩ := h x' k' (by simp [hm])
        rcases b2 r' with e' | ⟨c1, c2, e1, e2, e3, _⟩
        · exact ⟨r', o', cs2, q1, e'.trans q2, q3⟩
        · rw [q2] at e1; cases e1
          exact ⟨r', o', c2, q1, e2, by omega⟩
      refine ⟨fun t => (i1 t).trans (b1 t), fun q => (b2 q).trans (i2 q), fun x' k' r' o' cs2 j c hm q1 q2 q3 q4 q5 => ?_⟩
      rcases List.mem_cons.1 hm with hm | hm
      · cases hm
        rw [h1] at q1; cases q1
        rcases i2 r with e' | ⟨c1, c2, e1, e2, e3, e4⟩
        · rw [e', b3] at q2; cases q2
          exact b4 j c q5 q3 q4
        · rw [b3] at e1; cases e1
          rw [e2] at q2; cases q2
          exact (e4 j c q5).elim id fun h => b4 j c h q3 q4
      · exact i3 x' k' r' o' cs2 j c hm q1 q2 q3 q4 q5
    | ro x =>
      obtain ⟨i1, i2, i3⟩ := blanks_spec ps s fun x' k' hm => h x' k' (by simp [hm])
      exact ⟨i1, i2, fun x' k' r' o' cs2 j c hm => i3 x' k' r' o' cs2 j c (by simpa using hm)⟩
    | mv x k =>
      obtain ⟨i1, i2, i3⟩ := blanks_spec ps s fun x' k' hm => h x' k' (by simp [hm])
      exact ⟨i1, i2, fun x' k' r' o' cs2 j c hm => i3 x' k' r' o' cs2 j c (by simpa using hm)⟩


theorem Thawed.comp' {os1 os2 ns1 ns2 : List Nat} {x1 x2 : List (Nat × AO)} {C1 C2 : Ctx} (h1 : Thawed E n C st a os1 ns1 ([], x1) C1) (h2 : Thawed E n C1 (st.sets x1) a os2 ns2 ([], x2) C2) :
    Thawed E n C st a (os1 ++ os2) (ns1 ++ ns2) ([], x1 ++ x2) C2 := by
  refine ⟨by simp only [sets_append]; exact h2.inv, h2.w.trans h1.w, h1.le.trans h2.le, fun b hb hn => ?_, List.nil_sublist _, fun r hr => by simp at hr, fun r hr => ?_, fun b off hn hx => ?_, h2.G.trans h1.G, fun r L q1 q2 => ?_⟩
  · simp only [List.mem_append, not_or] at hn
    exact h2.free b (h1.free b hb hn.1) hn.2
  · simp only [List.mem_append, not_or] at hr
    simp only [sets_append]
    exact (h2.other r hr.2).trans (h1.other r hr.1)
  · simp only [List.mem_append, not_or] at hn
    exact h1.F b off hn.1 (h2.F b off hn.2 hx)
  · rcases h2.obj r L q1 q2 with ⟨q3, q4⟩ | q3
    · rcases h1.obj r L q3 q4 with q5 | q5
      · exact .inl q5
      · exact .inr (List.mem_append_left _ q5)
    · exact .inr (List.mem_append_right _ q3)

theorem backC_sound (h : Inv E n C st a) {old new : V} {u : Value} (hR : RB1 C new u) (hown : ∀ b ∈ owns1 new u, Free E C b) (hdead : ∀ r ∈ objC old, (st.heap r).isDead = true) (hno : (backC old new).1.noOwn = true) :
    ∃ C', Thawed E n C st a (owns1 new u) (objC old) ([], (backC old new).2) C' ∧ R C' (backC old new).1 u := by
  by_cases hc : ∃ s rows, new = .own s rows
  · obtain ⟨s, rows, rfl⟩ := hc
    cases old with
    | sref r i k =>
      obtain ⟨C', t, hr⟩ := thawC_sound h (ns := [r]) hR hown (by simp) (fun r' hr' => hdead r' (by simpa [objC] using hr')) (fun ⟨_, _, e⟩ => by cases e)
      exact ⟨C', t, hr⟩
    | _ => simp [backC, V.noOwn] at hno
  · have hne : ∀ s rows, new ≠ .own s rows := fun s rows e => hc ⟨s, rows, e⟩
    have e : backC old new = (new, []) := by unfold backC; split <;> first | exact absurd rfl (hne _ _) | rfl
    rw [e] at hno
    rw [RB1_other hne fun ks vs e => by subst e; simp [V.noOwn] at hno] at hR
    rw [e]
    exact ⟨C, ⟨h, rfl, h.le_grow (Ext.refl _) (fun _ _ h => h), fun _ hb _ => hb, List.nil_sublist _, fun r hr => by simp at hr, fun _ _ => rfl, fun _ _ _ h => h, rfl, fun _ _ h1 h2 => .inl ⟨h1, h2⟩⟩, hR⟩

theorem backL_sound : ∀ (olds news : List V) (us : List Value) {C : Ctx} {st : St}, Inv E n C st a → olds.length = news.length → news.length = us.length → (∀ (j : Nat) (c : V), news[j]? = some c → RB1 C c (us.getD j undef)) →
    (∀ b ∈ ownsL news us, Free E C b) → (ownsL news us).Nodup → (olds.flatMap objC).Nodup → (∀ r ∈ olds.flatMap objC, (st.heap r).isDead = true) → (backL olds news).1.all V.noOwn = true →
    ∃ C', Thawed E n C st a (ownsL news us) (olds.flatMap objC) ([], (backL olds news).2) C' ∧ (backL olds news).1.length = us.length ∧ ∀ (j : Nat) (c : V), (backL olds news).1[j]? = some c → R C' c (us.getD j undef)
  | [], [], [], C, st, h, _, _, _, _, _, _, _, _ => ⟨C, ⟨h, rfl, h.le_grow (Ext.refl _) (fun _ _ h => h), fun _ hb _ => hb, List.nil_sublist _, fun r hr => by simp at hr, fun _ _ => rfl, fun _ _ _ h => h, rfl, fun _ _ h1 h2 => .inl ⟨h1, h2⟩⟩, rfl, fun j c hj => by simp [backL] at hj⟩
  | [], _ :: _, _, _, _, _, hl, _, _, _, _, _, _, _ => by simp at hl
  | _ :: _, [], _, _, _, _, hl, _, _, _, _, _, _, _ => by simp at hl
  | _, [], _ :: _, _, _, _, _, hl, _, _, _, _, _, _ => by simp at hl
  | _, _ :: _, [], _, _, _, _, hl, _, _, _, _, _, _ => by simp at hl
  | o :: os, v :: l, u :: us, C, st, h, hlo, hl, hr, hf, hnd, hns, hd, hno => by
    simp only [ownsL, List.nodup_append] at hnd
    obtain ⟨_, hnd2, hdj⟩ := hnd
    simp only [List.flatMap_cons, List.nodup_append] at hns
    obtain ⟨_, hns2, hnj⟩ := hns
    simp only [backL, List.all_cons, Bool.and_eq_true] at hno
    obtain ⟨C1, t1, r1⟩ := backC_sound h (hr 0 v rfl) (fun b hb => hf b (by simp only [ownsL, List.mem_append]; exact .inl hb)) (fun r hr => hd r (by simp only [List.flatMap_cons, List.mem_append]; exact .inl hr)) hno.1
    have hr' : ∀ (j : Nat) (c : V), l[j]? = some c → RB1 C1 c (us.getD j undef) := fun j c hj => RB1_mono t1.le t1.w (by simpa using hr (j + 1) c (by simpa using hj))
    have hf' : ∀ b ∈ ownsL l us, Free E C1 b := fun b hb => t1.free b (hf b (by simp only [ownsL, List.mem_append]; exact .inr hb)) fun hb' => hdj b hb' b hb rfl
    have hd' : ∀ r ∈ os.flatMap objC, ((st.sets (backC o v).2).heap r).isDead = true := fun r hr => by
      rw [t1.other r fun h' => hnj r h' r hr rfl]
      exact hd r (by simp only [List.flatMap_cons, List.mem_append]; exact .inr hr)
    obtain ⟨C2, t2, l2, r2⟩ := backL_sound os l us t1.inv (by simpa using hlo) (by simpa using hl) hr' hf' hnd2 hns2 hd' hno.2
    refine ⟨C2, by simpa [ownsL, backL] using t1.comp' t2, by simp [backL, l2], fun j c hj => ?_⟩
    cases j with
    | zero =>
      simp only [backL, List.getElem?_cons_zero, Option.some.injEq] at hj
      subst hj
      exact r1.mono t2.le
    | succ j => simpa using r2 j c (by simpa [backL] using hj)

theorem Inv.rebox (h : Inv E n C st a) {r : Nat} {cs cs' : List V} {L : Loc} (hh : C.heap r = .box cs) (hl : C.loc r = some L) (hlen : cs'.length = cs.length)
    (hc : ∀ cur e, C.w.heap[L.blk]? = some (.cells cur e (0, 0)) → CellsR C cs' (fun j => cur[L.base + j]?)) :
    Inv E n { C with heap := upd C.heap r (.box cs') } (st.set r (.box cs')) a ∧ Le C { C with heap := upd C.heap r (.box cs') } := by
  have hle : Le C { C with heap := upd C.heap r (.box cs') } := by
    refine ⟨fun b off hf => ⟨hf, rfl⟩, fun _ h => h, fun r' c1 _ h' => ⟨?_, rfl⟩, fun r' s rs _ h' => ⟨?_, rfl⟩, fun r' ks vs _ h' => ⟨?_, rfl⟩⟩
    · by_cases e : r' = r
      · subst e; exact ⟨cs', by simp [upd]⟩
      · exact ⟨c1, by simp [upd, e, h']⟩
    · by_cases e : r' = r
      · subst e; rw [hh] at h'; cases h'
      · exact ⟨rs, by simp [upd, e, h'], rfl⟩
    · by_cases e : r' = r
      · subst e; rw [hh] at h'; cases h'
      · exact ⟨ks, vs, by simp [upd, e, h']⟩
  have hdead : ∀ q, (upd C.heap r (.box cs') q).isDead = false → (C.heap q).isDead = false := fun q hq => by
    by_cases e : q = r
    · subst e; rw [hh]; rfl
    · simpa [upd, e] using hq
  refine ⟨{ heap := by simp [St.set, h.heap], env := fun t => (h.env t).mono hle
            objs := fun q => ?_
            inj := fun r1 r2 L1 L2 h1 h2 d1 d2 hb => h.inj r1 r2 L1 L2 h1 h2 (hdead r1 d1) (hdead r2 d2) hb
            fin := h.fin, gnew := h.gnew, gsub := h.gsub, par := h.par, fnew := h.fnew, frame := h.frame, marks := h.marks, mnd := h.mnd, fkeep := h.fkeep, stay := h.stay, wsz := h.wsz, mball := h.mball, size := h.size }, hle⟩
  by_cases e : q = r
  · subst e
    have ho := h.objs q
    unfold ObjOk at ho ⊢
    rw [hh] at ho
    simp only [upd, if_true]
    obtain ⟨L', hl', ⟨cur, e, g, g2, g3⟩, g4, g5⟩ := ho
    rw [hl] at hl'; cases hl'
    exact ⟨L, hl, ⟨cur, e, fun j => cur.getD (L.base + j) undef, g2, cells_of (f := fun j => L.base + j) ((hc cur e g2).mono hle)⟩, fun j hj => g4 j (hlen ▸ hj), g5⟩
  · exact (h.objs q).mono hle ⟨fun _ _ _ _ _ => ⟨rfl, rfl, fun _ h => h⟩⟩ (by simp [upd, e]) rfl fun L' _ _ => ⟨rfl, fun _ h => h, fun h => h⟩

structure Back (st s : St) (C B : Ctx) (x : X) (k : Nat) (o : V) (u : Value) : Prop where
  it : ∃ r off L cs1 cs', x.ev st = .ptr r off ∧ s.heap r = .box cs1 ∧ off + k ≤ cs1.length ∧ C.loc r = some L ∧ u = .pointer (some ⟨L.blk, L.base + off, none⟩) ∧ o = .io cs' ∧ cs'.length = k ∧
    (oldC st r off k).length = k ∧ IoR B cs' u ∧ (backL (oldC st r off k) cs').1.all V.noOwn = true

theorem gone_io {x : X} {k r off : Nat} (hx : x.ev st = .ptr r off) : (Pm.io x k).gone st = (oldC st r off k).flatMap objC := by
  simp only [Pm.gone, hx, oldC]
  cases st.heap r <;> rfl

theorem backs_sound {B : Ctx} (hBh : ∀ r, B.heap r = .dead) : ∀ (ps : List Pm) (outs : List V) (us : List Value) {C : Ctx} {s : St}, Inv E n C s a → ps.length = outs.length → outs.length = us.length →
    (∀ b off, B.F b off → C.F b off) → (∀ b, B.G b → C.G b) → C.w = B.w →
    (∀ (i : Nat) x k, ps[i]? = some (.io x k) → ∃ o, outs[i]? = some o ∧ Back st s C B x k o (us.getD i undef)) →
    (ps.flatMap (·.gone st)).Nodup → (∀ r ∈ ps.flatMap (·.gone st), (s.heap r).isDead = true) → (ps.flatMap (·.box st)).Nodup →
    (∀ b ∈ listA (ownsA B.w) outs us, Free E C b) → (listA (ownsA B.w) outs us).Nodup →
    ∃ C', Inv E n C' (backs st ps outs s) a ∧ C'.w = C.w ∧ Le C C' ∧ (∀ b, Free E C b → b ∉ listA (ownsA B.w) outs us → Free E C' b) ∧
      ∀ r, (s.heap r).isDead = true → r ∉ ps.flatMap (·.gone st) → ((backs st ps outs s).heap r).isDead = true
  | [], [], [], C, s, h, _, _, _, _, _, _, _, _, _, _, _ => ⟨C, h, rfl, h.le_grow (Ext.refl _) (fun _ _ h => h), fun _ hb _ => hb, fun _ hr _ => hr⟩
  | [], _ :: _, _, _, _, _, hl, _, _, _, _, _, _, _, _, _, _ => by simp at hl
  | _ :: _, [], _, _, _, _, hl, _, _, _, _, _, _, _, _, _, _ => by simp at hl
  | _, [], _ :: _, _, _, _, _, hl, _, _, _, _, _, _, _, _, _ => by simp at hl
  | _, _ :: _, [], _, _, _, _, hl, _, _, _, _, _, _, _, _, _ => by simp at hl
  | p :: ps, o :: os, u :: us, C, s, h, hl1, hl2, hF, hG, hw, hb, hgn, hgd, hbn, hfree, hnd => by
    have hl1' : ps.length = os.length := by simpa using hl1
    have hl2' : os.length = us.length := by simpa using hl2
    simp only [List.flatMap_cons, List.nodup_append] at hgn hbn
    obtain ⟨hgn1, hgn2, hgj⟩ := hgn
    obtain ⟨hbn1, hbn2, hbj⟩ := hbn
    simp only [listA, List.nodup_append] at hnd
    obtain ⟨hnd1, hnd2, hndj⟩ := hnd
    have skip : (∀ x k, p ≠ .io x k) → ∃ C', Inv E n C' (backs st ps os s) a ∧ C'.w = C.w ∧ Le C C' ∧ (∀ b, Free E C b → b ∉ listA (ownsA B.w) (o :: os) (u :: us) → Free E C' b) ∧
      ∀ r, (s.heap r).isDead = true → r ∉ (p :: ps).flatMap (·.gone st) → ((backs st ps os s).heap r).isDead = true := fun _ => by
      obtain ⟨C', q1, q2, q3, q4, q5⟩ := backs_sound hBh ps os us h hl1' hl2' hF hG hw (fun i x k hi => by simpa using hb (i + 1) x k (by simpa using hi)) hgn2
        (fun r hr => hgd r (by simp only [List.flatMap_cons, List.mem_append]; exact .inr hr)) hbn2 (fun b hb => hfree b (by simp only [listA, List.mem_append]; exact .inr hb)) hnd2
      refine ⟨C', q1, q2, q3, fun b hb hn => q4 b hb fun hm => hn (by simp only [listA, List.mem_append]; exact .inr hm), fun r hr hn => q5 r hr fun hm => hn (by simp only [List.flatMap_cons, List.mem_append]; exact .inr hm)⟩
    cases p with
    | ro x => exact skip (fun _ _ e => by cases e)
    | mv x k => exact skip (fun _ _ e => by cases e)
    | io x k =>
      obtain ⟨o', ho', ⟨r, off, L, cs1, cs', b1, b2, b3, b4, b5, b6, b7, b8, b9, b10⟩⟩ := hb 0 x k rfl
      simp only [List.getElem?_cons_zero, Option.some.injEq] at ho'
      simp only [List.getD_cons_zero] at b5 b9
      subst ho' b6 b5
      have eg := gone_io (st := st) (x := x) (k := k) b1
      have eb : (Pm.io x k).box st = [r] := by simp [Pm.box, b1]
      simp only [List.flatMap_cons] at hgd
      rw [eg] at hgn1 hgj hgd
      rw [eb] at hbj
      -- the memory
      obtain ⟨blk, base, cur, e, g, c1, c2, c3⟩ := b9
      cases c1
      have c2' : C.w.heap[L.blk]? = some (.cells cur e (0, 0)) := by rw [hw]; exact c2
      have eo : ownsA B.w (.io cs') (.pointer (some ⟨L.blk, L.base + off, none⟩)) = ownsL cs' (cellsAt B.w L.blk (L.base + off) cs'.length) := rfl
      rw [eo] at hnd1 hndj
      have us_get : ∀ j, j < k → (cellsAt B.w L.blk (L.base + off) cs'.length).getD j undef = cur.getD (L.base + off + j) undef := fun j hj => by
        rw [cellsAt_get _ _ _ _ _ (b7 ▸ hj), cell_of_row _ _ _ _ _ _ c2, Array.getD_eq_getD_getElem?]
      have hle0 : Le B C := ⟨fun b off hf => ⟨hF b off hf, by rw [hw]⟩, hG, fun r cs _ hr => by (rw [hBh] at hr; cases hr), fun r s rs _ hr => by (rw [hBh] at hr; cases hr), fun r ks vs _ hr => by (rw [hBh] at hr; cases hr)⟩
      obtain ⟨C1, t1, l1, r1⟩ := backL_sound (oldC st r off k) cs' (cellsAt B.w L.blk (L.base + off) cs'.length) h (by rw [b8, b7]) (by rw [cellsAt_len])
        (fun j c hj => by
          have hjk : j < k := by rw [← b7]; exact (List.getElem?_eq_some_iff.1 hj).1
          obtain ⟨a1, a2, a3⟩ := c3 j c hj
          rw [us_get j hjk, Array.getD_eq_getD_getElem?, a1]
          exact RB1_mono hle0 hw a3)
        (fun b hb => hfree b (by simp only [listA, List.mem_append]; exact .inl (by rw [eo]; exact hb))) hnd1 hgn1 (fun q hq => hgd q (by simp only [List.mem_append]; exact .inl hq)) b10
      rw [cellsAt_len, b7] at l1
      have hrn : r ∉ (oldC st r off k).flatMap objC := fun hm => by
        have := hgd r (by simp only [List.mem_append]; exact .inl hm)
        rw [b2] at this; simp [AO.isDead] at this
      have hh1 : (s.sets (backL (oldC st r off k) cs').2).heap r = .box cs1 := by rw [t1.other r hrn]; exact b2
      have hC1 : C1.heap r = .box cs1 := by rw [t1.inv.heap]; exact hh1
      have hCr : C.heap r = .box cs1 := by rw [h.heap]; exact b2
      have hloc1 : C1.loc r = some L := (t1.le.box r cs1 rfl hCr).2.trans b4
      obtain ⟨s1, s2⟩ := setR_spec (cs := cs1) (vs := (backL (oldC st r off k) cs').1) (off := off) (by rw [l1]; exact b3)
      obtain ⟨i2, le2⟩ := t1.inv.rebox (cs' := setR cs1 off (backL (oldC st r off k) cs').1) hC1 hloc1 s1 (fun cur2 e2 hcur2 => by
        rw [t1.w, c2'] at hcur2; cases hcur2
        intro j c hj
        rw [s2, l1] at hj
        by_cases hjr : off ≤ j ∧ j < off + k
        · rw [if_pos hjr] at hj
          have hjk : j - off < k := by omega
          have hR := r1 _ c hj
          rw [us_get _ hjk] at hR
          have e3 : L.base + off + (j - off) = L.base + j := by omega
          obtain ⟨c', hc'⟩ : ∃ c', cs'[j - off]? = some c' := ⟨cs'[j - off]'(by omega), by simp⟩
          obtain ⟨a1, a2, _⟩ := c3 _ c' hc'
          rw [e3] at a1 hR
          rw [Array.getD_eq_getD_getElem?, a1] at hR
          exact ⟨_, a1, a2, hR⟩
        · rw [if_neg hjr] at hj
          have ho := t1.inv.objs r
          unfold ObjOk at ho
          rw [hC1] at ho
          obtain ⟨L', hl', ⟨cur3, e3, g3, g4, g5⟩, _⟩ := ho
          rw [hloc1] at hl'; cases hl'
          rw [t1.w, c2'] at g4; cases g4
          obtain ⟨a1, a2, a3⟩ := g5 j c hj
          exact ⟨_, a1, a2, a3⟩)
      have ebk : backs st (.io x k :: ps) (.io cs' :: os) s = backs st ps os ((s.sets (backL (oldC st r off k) cs').2).set r (.box (setR cs1 off (backL (oldC st r off k) cs').1))) := by
        simp [backs, b1, b2]
      rw [ebk]
      have lle : Le C { C1 with heap := upd C1.heap r (.box (setR cs1 off (backL (oldC st r off k) cs').1)) } := t1.le.trans le2
      have hfree2 : ∀ b, Free E C b → b ∉ ownsL cs' (cellsAt B.w L.blk (L.base + off) cs'.length) → Free E { C1 with heap := upd C1.heap r (.box (setR cs1 off (backL (oldC st r off k) cs').1)) } b := fun b hb hn =>
        (t1.free b hb hn).mono (fun _ h => h) (fun h => h) fun q L' q1 q2 _ => ⟨q1, by
          by_cases e : q = r
          · subst e; rw [hC1]; rfl
          · simpa [upd, e] using q2⟩
      -- heap of other names
      have hsame : ∀ q, q ∉ (oldC st r off k).flatMap objC → q ≠ r → ((s.sets (backL (oldC st r off k) cs').2).set r (.box (setR cs1 off (backL (oldC st r off k) cs').1))).heap q = s.heap q := fun q h1 h2 => by
        simp only [St.set, upd, h2, if_false]; exact t1.other q h1
      obtain ⟨C', q1, q2, q3, q4, q5⟩ := backs_sound hBh ps os us i2 hl1' hl2' (fun b off hf => (lle.F b off (hF b off hf)).1) (fun b hg => lle.G b (hG b hg)) (t1.w.trans hw)
        (fun i x' k' hi => by
          obtain ⟨o2, ho2, ⟨r2, off2, L2, cs2, cs2', d1, d2, d3, d4, d5, d6, d7, d8, d9, d10⟩⟩ := hb (i + 1) x' k' (by simpa using hi)
          have hne : r2 ≠ r := fun e => by
            subst e
            refine hbj r2 (by simp) r2 ?_ rfl
            rw [List.mem_flatMap]
            exact ⟨_, List.mem_of_getElem? hi, by simp [Pm.box, d1]⟩
          have hn2 : r2 ∉ (oldC st r off k).flatMap objC := fun hm => by
            have := hgd r2 (by simp only [List.mem_append]; exact .inl hm)
            rw [d2] at this; simp [AO.isDead] at this
          refine ⟨o2, by simpa using ho2, ⟨r2, off2, L2, cs2, cs2', d1, (hsame r2 hn2 hne).trans d2, d3, ?_, by simpa using d5, d6, d7, d8, by simpa using d9, d10⟩⟩
          have := (lle.box r2 cs2 rfl (by rw [h.heap]; exact d2)).2
          exact this.trans d4)
        hgn2 (fun q hq => by
          rw [hsame q (fun hm => hgj q hm q hq rfl) (fun e => by
            subst e
            have := hgd q (by simp only [List.mem_append]; exact .inr hq)
            rw [b2] at this; simp [AO.isDead] at this)]
          exact hgd q (by simp only [List.mem_append]; exact .inr hq)) hbn2
        (fun b hb => hfree2 b (hfree b (by simp only [listA, List.mem_append]; exact .inr hb)) fun hm => hndj b hm b hb rfl) hnd2
      refine ⟨C', q1, q2.trans t1.w, lle.trans q3, fun b hb hn => ?_, fun q hq hn => ?_⟩
      · simp only [listA, List.mem_append, not_or] at hn
        exact q4 b (hfree2 b hb (by rw [← eo]; exact hn.1)) hn.2
      · simp only [List.flatMap_cons, List.mem_append, not_or] at hn
        rw [eg] at hn
        refine q5 q ?_ hn.2
        rw [hsame q hn.1 (fun e => by subst e; rw [b2] at hq; simp [AO.isDead] at hq)]
        exact hq

end Go.Ab

namespace Go.Ab
open Go

variable {E : Ent} {n : Sz} {C : Ctx} {st : St} {a : Act} {P : Program}

theorem RB_mono {C' : Ctx} (hc : Le C C') (hw : C'.w = C.w) {c : V} {u : Value} (h : RB C c u) : RB C' c u := by
  by_cases hcc : ∃ vs, c = .tup vs
  · obtain ⟨vs, rfl⟩ := hcc
    obtain ⟨us, rfl, h2, h4⟩ := h
    exact ⟨us, rfl, h2, fun j c hj => RB2_mono hc hw (h4 j c hj)⟩
  · have hne : ∀ vs, c ≠ .tup vs := fun vs e => hcc ⟨vs, e⟩
    have e1 : ∀ C : Ctx, RB C c u = RB2 C c u := fun C => by unfold RB; split <;> first | exact absurd rfl (hne _) | rfl
    rw [e1] at h ⊢
    exact RB2_mono hc hw h

theorem IoR_mono {C' : Ctx} (hc : Le C C') (hw : C'.w = C.w) {cs : List V} {u : Value} (h : IoR C cs u) : IoR C' cs u := by
  obtain ⟨b, base, cur, e, g, h1, h2, h3⟩ := h
  exact ⟨b, base, cur, e, g, h1, by rw [hw]; exact h2, fun j c hj => ⟨(h3 j c hj).1, (h3 j c hj).2.1, RB1_mono hc hw (h3 j c hj).2.2⟩⟩

theorem Le_bare {w : World} {F : Nat → Nat → Prop} {G : Nat → Prop} {C' : Ctx} (hF : ∀ b off, F b off → C'.F b off) (hG : ∀ b, G b → C'.G b) (hw : C'.w = w) : Le (bare w F G) C' :=
  ⟨fun b off hf => ⟨hF b off hf, by rw [hw]; rfl⟩, hG, fun r cs _ hr => (by cases hr), fun r s rs _ hr => (by cases hr), fun r ks vs _ hr => (by cases hr)⟩

theorem frz_plain (h : Inv E n C st a) : ∀ (k : Nat) (v : V) (u : Value), R C v u → v.closed = true → R (bare C.w C.F C.G) (frz st k v) u
  | 0, v, u, hR, hc => by
    have e : frz st 0 v = v := by unfold frz; cases v <;> rfl
    rw [e]
    exact R.of_closed (C := C) (C' := bare C.w C.F C.G) (fun _ _ hf => ⟨hf, rfl⟩) (fun _ h => h) hR hc
  | k + 1, v, u, hR, hc => by
    have ih := frz_plain h k
    have other : frz st (k + 1) v = v → R (bare C.w C.F C.G) (frz st (k + 1) v) u := fun e => by
      rw [e]; exact R.of_closed (C := C) (C' := bare C.w C.F C.G) (fun _ _ hf => ⟨hf, rfl⟩) (fun _ h => h) hR hc
    cases hR with
    | undef | bool | int | str | nilp | nilf | slNil | slZ | sl | cp => exact other rfl
    | ptr | rptr | sref | srefNil | srefZ | mp => simp [V.closed] at hc
    | nils s => simp only [frz]; exact .slNil false s
    | nilsSome s b off =>
      simp only [frz]
      exact .sl false s [] b off 0 (fun _ _ => undef) (by simp) (by simp [maxLen]) (by simp) (by simp) (fun i j c hij => by simp [at2] at hij) (fun i j c hij => by simp [at2] at hij) (fun i j c hij => by simp [at2] at hij)
    | agg cs us hl h1 hr =>
      simp only [V.closed] at hc
      obtain ⟨l, r⟩ := mapR (C := bare C.w C.F C.G) (f := frz st k) hl (fun j c hj => ih c _ (hr j c hj) (closedL_all hc j _ hj))
      exact .agg _ us l h1 r
    | tup cs us hl hr =>
      simp only [V.closed] at hc
      obtain ⟨l, r⟩ := mapR (C := bare C.w C.F C.G) (f := frz st k) hl (fun j c hj => ih c _ (hr j c hj) (closedL_all hc j _ hj))
      exact .tup _ us l r
    | fn f first caps us ws hl hl' hr hr' =>
      simp only [V.closed, Bool.and_eq_true] at hc
      obtain ⟨l, r⟩ := mapR (C := bare C.w C.F C.G) (f := frz st k) hl (fun j c hj => ih c _ (hr j c hj) (closedL_all hc.1 j _ hj))
      obtain ⟨l', r'⟩ := mapR (C := bare C.w C.F C.G) (f := frz st k) hl' (fun j c hj => ih c _ (hr' j c hj) (closedL_all hc.2 j _ hj))
      exact .fn f _ _ us ws l l' r r'

theorem outsOk_get : ∀ {ps : List Pm} {os : List V}, outsOk st ps os = true → ∀ (i : Nat) (x : X) (k : Nat) (o : V), ps[i]? = some (.io x k) → os[i]? = some o →
    ∃ r off cs', x.ev st = .ptr r off ∧ o = .io cs' ∧ cs'.length = k ∧ (backL (oldC st r off k) cs').1.all V.noOwn = true
  | [], _, _, i, x, k, o, hi, _ => by simp at hi
  | _ :: _, [], _, i, x, k, o, _, hi => by simp at hi
  | p :: ps, q :: os, h, i, x, k, o, hi, ho => by
    have hrest : outsOk st ps os = true := by
      cases p <;> simp only [outsOk, Bool.and_eq_true] at h <;> first | exact h.2 | exact h
    cases i with
    | zero =>
      simp only [List.getElem?_cons_zero, Option.some.injEq] at hi ho
      subst hi ho
      simp only [outsOk, Bool.and_eq_true] at h
      cases hx : x.ev st with
      | ptr r off =>
        cases q with
        | io cs' =>
          simp only [hx, Bool.and_eq_true, beq_iff_eq] at h
          exact ⟨r, off, cs', rfl, rfl, h.1.1, h.1.2⟩
        | _ => simp [hx] at h
      | _ => simp [hx] at h
    | succ i => exact outsOk_get hrest i x k o (by simpa using hi) (by simpa using ho)

theorem names_nodup (h : Inv E n C st a) {l : List Nat} (hl : l.Nodup) (hlive : ∀ r ∈ l, (st.heap r).isDead = false) : (l.filterMap (blkOf C)).Nodup := by
  unfold List.Nodup at hl ⊢
  rw [List.pairwise_filterMap]
  refine List.Pairwise.imp_of_mem ?_ hl
  intro r r' hr hr' hne b hb b' hb' e
  subst e
  simp only [blkOf, Option.map_eq_some_iff] at hb hb'
  obtain ⟨L, h1, h2⟩ := hb
  obtain ⟨L', h3, h4⟩ := hb'
  exact hne (h.inj r r' L L' h1 h3 (by rw [h.heap]; exact hlive r hr) (by rw [h.heap]; exact hlive r' hr') (h2.trans h4.symm))

theorem call_core (h : Inv E n C st a) {f : FuncId} {args : List Pm} {us : List Value} {objs : List Nat} {res : V} {outs : List V} {fr : Bool} {Φ : Nat → Nat → Prop} {C1 : Ctx}
    (hargl : args.length = us.length) (hargs : ∀ (i : Nat) (p : Pm), args[i]? = some p → R C (p.x.ev st) (us.getD i undef)) (hnd : (args.flatMap (·.gone st) ++ args.flatMap (·.box st)).Nodup) (hobn : objs.Nodup) (hobd : objs.all (fun r => (st.heap r).isDead) = true) (hmb : objs ≠ [] → ∀ b, E.Mb b)
    (hok : args.all (·.ok (st.kills (args.flatMap (·.gone st) ++ args.flatMap (·.box st))) st) = true)
    (hcall : CallsV P f (args.map (·.val (st.kills (args.flatMap (·.gone st) ++ args.flatMap (·.box st))) st)) res outs fr)
    (hout : outsOk st args outs = true)
    (hi1 : Inv E n C1 (st.kills (args.flatMap (·.gone st) ++ args.flatMap (·.box st))) a) (hF1 : C1.F = C.F) (hl1 : C1.loc = C.loc)
    (ha : ∀ b off, C.F b off → Φ b off)
    (hb : ∀ (i : Nat) x, args[i]? = some (Pm.ro x) → ((frz (st.kills (args.flatMap (·.gone st) ++ args.flatMap (·.box st))) 4 (x.ev (st.kills (args.flatMap (·.gone st) ++ args.flatMap (·.box st))))).sh).closed = true →
      R (bare C.w Φ C.G) ((frz (st.kills (args.flatMap (·.gone st) ++ args.flatMap (·.box st))) 4 (x.ev (st.kills (args.flatMap (·.gone st) ++ args.flatMap (·.box st))))).sh) (us.getD i undef))
    (he : fr = false → ∀ b off, Φ b off → C.F b off) (hf : (∃ x k, Pm.io x k ∈ args) → ∀ b off, Φ b off → C.F b off) (hg : ∀ b off, Φ b off → Lent C1 b off) :
    Calls P f us.toArray C.w fun e w' => ∃ v C', e = .returned v ∧ C'.w = w' ∧
      Inv E n C' ((backs st args outs (blanks st args (st.kills (args.flatMap (·.gone st))))).sets (thaw res objs).2.2) a ∧ R C' (thaw res objs).1 v := by
  have hand := h.handL ha hargl hargs hok hb
  generalize hvals : args.map (·.val (st.kills (args.flatMap (·.gone st) ++ args.flatMap (·.box st))) st) = vals at hcall hand
  obtain ⟨hlen, hlen'⟩ := hand.len
  obtain ⟨hliveG, hliveB⟩ := hand.live
  have hndG := (List.nodup_append.1 hnd).1
  have hndB := (List.nodup_append.1 hnd).2.1
  have hdjGB := (List.nodup_append.1 hnd).2.2
  -- the blocks
  have blkG : ∀ b ∈ listA (ownsA C.w) vals us, ∃ r ∈ args.flatMap (·.gone st), ∃ L s rs, C.loc r = some L ∧ L.blk = b ∧ C.heap r = .rows s rs ∧ RowsOk E C L s rs := fun b hb => by
    obtain ⟨r, hr, h2⟩ := List.mem_filterMap.1 (hand.owns.subset hb)
    simp only [blkOf, Option.map_eq_some_iff] at h2
    obtain ⟨L, h3, h4⟩ := h2
    obtain ⟨s, rs, h5⟩ := hliveG r hr
    have h6 : C.heap r = .rows s rs := by rw [h.heap]; exact h5
    have ho := h.objs r
    unfold ObjOk at ho
    rw [h6] at ho
    rcases ho with ⟨_, ho⟩ | ⟨L', h7, h8⟩
    · rw [h3] at ho; cases ho
    · rw [h3] at h7; cases h7
      exact ⟨r, hr, L, s, rs, h3, h4, h6, h8⟩
  have blkB : ∀ r cs, C.heap r = .box cs → ∀ L, C.loc r = some L → BoxOk E C L cs := fun r cs h6 L h3 => by
    have ho := h.objs r
    unfold ObjOk at ho
    rw [h6] at ho
    obtain ⟨L', h7, h8⟩ := ho
    rw [h3] at h7; cases h7; exact h8
  have ioOf : ∀ {b off}, anyC vals us b off → ∃ x k, Pm.io x k ∈ args := fun hc => by
    obtain ⟨x, k, r, o, L, cs, h1, _⟩ := hand.cells hc
    exact ⟨x, k, h1⟩
  have wrF : ∀ b off, writable C.w vals us b off → ¬ C.F b off ∧ (E.w0.heap.size ≤ b ∨ E.Wr b off) := fun b off hw => by
    rcases hw with hw | hw
    · obtain ⟨r, hr, L, s, rs, q1, q2, q3, q4⟩ := blkG b hw
      subst q2
      exact q4.2.2.2.2.2.1 off
    · obtain ⟨x, k, r, o, L, cs, q1, q2, q3, q4, q5, q6, q7, q8⟩ := hand.cells hw
      subst q6
      have := (blkB r cs (by rw [h.heap]; exact q3) L q5).2.1 (off - L.base) (by omega)
      rw [show L.base + (off - L.base) = off by omega] at this
      exact this
  have hsz : E.w0.heap.size ≤ C.w.heap.size := h.frame.size
  -- the call
  refine Calls.mono (hcall C.w Φ C.G us hlen hand.get ?_ ?_ ?_ ?_ ?_) ?_
  · refine List.Sublist.nodup (hand.owns.append hand.box) ?_
    rw [← List.filterMap_append]
    refine names_nodup h hnd fun r hr => ?_
    rcases List.mem_append.1 hr with hr | hr
    · obtain ⟨s, rs, e⟩ := hliveG r hr; rw [e]; rfl
    · obtain ⟨cs, e⟩ := hliveB r hr; rw [e]; rfl
  · intro b hb
    obtain ⟨r, hr, L, s, rs, q1, q2, q3, q4⟩ := blkG b hb
    subst q2
    exact q4.2.2.2.2.2.2
  · intro b hb
    obtain ⟨r, hr, h2⟩ := List.mem_filterMap.1 (hand.box.subset hb)
    simp only [blkOf, Option.map_eq_some_iff] at h2
    obtain ⟨L, h3, h4⟩ := h2
    obtain ⟨cs, h5⟩ := hliveB r hr
    subst h4
    have hio : ∃ x k, Pm.io x k ∈ args := by
      obtain ⟨p, hp, hr⟩ := List.mem_flatMap.1 hr
      cases p with
      | io x k => exact ⟨x, k, hp⟩
      | ro x => simp [Pm.box] at hr
      | mv x k => simp [Pm.box] at hr
    exact (blkB r cs (by rw [h.heap]; exact h5) L h3).2.2.imp (fun q off hφ => q off (hf hio _ _ hφ)) id
  · intro b hb; exact h.gnew b (Nat.le_trans hsz hb)
  · intro b off hφ
    rcases hg b off hφ with hF | ⟨r, L, q1, q2, q3⟩
    · rw [hF1] at hF
      exact ⟨h.fin b off hF, fun hw => (wrF b off hw).1 hF⟩
    · rw [hl1] at q1
      rw [hi1.heap] at q2
      obtain ⟨q4, q5⟩ := kills_live q2
      have q5' : (C.heap r).isDead = false := by rw [h.heap]; exact q5
      subst q3
      refine ⟨(h.objs r).lt q1 q5', fun hw => ?_⟩
      rcases hw with hw | hw
      · obtain ⟨r', hr', L', s, rs, p1, p2, p3, p4⟩ := blkG _ hw
        have := h.inj r r' L L' q1 p1 q5' (by rw [p3]; rfl) p2.symm
        subst this
        exact q4 (List.mem_append_left _ hr')
      · exact (wrF L.blk off (.inr hw)).1 (hf (ioOf hw) _ _ hφ)
  -- behind the call
  rintro e w' ⟨v, Fr, rfl, post⟩
  obtain ⟨CA, iA, wA, FA, GA, lA⟩ := h.kills (args.flatMap (·.gone st))
  have ioAt : ∀ x k, Pm.io x k ∈ args → ∃ r o cs L, x.ev st = .ptr r o ∧ st.heap r = .box cs ∧ o + k ≤ cs.length ∧ C.loc r = some L ∧ r ∉ args.flatMap (·.gone st) := fun x k hm => by
    obtain ⟨i, hi⟩ := List.getElem?_of_mem hm
    obtain ⟨r, o, L, cs, q1, q2, q3, q4, _⟩ := hand.io i x k hi
    refine ⟨r, o, cs, L, q1, q2, q3, q4, fun hr => ?_⟩
    obtain ⟨s, rs, q5⟩ := hliveG r hr
    rw [q2] at q5; cases q5
  obtain ⟨bl1, bl2, bl3⟩ := blanks_spec (st := st) args (st.kills (args.flatMap (·.gone st))) fun x k hm => by
    obtain ⟨r, o, cs, L, q1, q2, q3, q4, q5⟩ := ioAt x k hm
    obtain ⟨cs', q6, q7⟩ := kills_box q5 q2
    exact ⟨r, o, cs', q1, q6, by omega⟩
  obtain ⟨iB, leB⟩ := iA.weak bl1 bl2
  -- what lives there
  have liveB : ∀ q, ((blanks st args (st.kills (args.flatMap (·.gone st)))).heap q).isDead = false → q ∉ args.flatMap (·.gone st) ∧ (C.heap q).isDead = false := fun q hq => by
    rw [(bl2 q).dead] at hq
    obtain ⟨q1, q2⟩ := kills_live hq
    exact ⟨q1, by rw [h.heap]; exact q2⟩
  have apart : ∀ q L, C.loc q = some L → ((blanks st args (st.kills (args.flatMap (·.gone st)))).heap q).isDead = false → L.blk ∉ listA (ownsA C.w) vals us := fun q L hq hl hm => by
    obtain ⟨q1, q2⟩ := liveB q hl
    obtain ⟨r', hr', L', s, rs, p1, p2, p3, p4⟩ := blkG _ hm
    have := h.inj q r' L L' hq p1 q2 (by rw [p3]; rfl) p2.symm
    subst this
    exact q1 hr'
  obtain ⟨iC, leC⟩ := iB.world (w' := w') (W := writable C.w vals us) (F' := fun b off => C.F b off ∨ Fr b off) (by rw [show ({CA with heap := (blanks st args (st.kills (args.flatMap (·.gone st)))).heap} : Ctx).w = C.w from wA]; exact post.frame)
    (fun b off hw hF => (wrF b off hw).1 (by rw [← FA]; exact hF)) (fun b off hw => (wrF b off hw).2) (fun b off hF => .inl (by rw [← FA]; exact hF))
    (fun b off hF => by
      rcases hF with hF | hF
      · exact .inl (by rw [FA]; exact hF)
      · obtain ⟨p1, p2⟩ := post.fresh b off hF
        refine .inr ⟨p1, ?_, fun r L hl hd hbb => ?_, fun o ho => ?_⟩
        · show CA.G b
          rw [GA]
          rcases p2 with p2 | p2
          · exact h.gnew b (Nat.le_trans hsz p2)
          · obtain ⟨r', hr', L', s, rs, q1, q2, q3, q4⟩ := blkG _ p2
            subst q2
            exact q4.2.2.2.2.2.2
        rw [show ({CA with heap := (blanks st args (st.kills (args.flatMap (·.gone st)))).heap} : Ctx).loc = C.loc from lA] at hl
        subst hbb
        rcases p2 with p2 | p2
        · exact absurd ((h.objs r).lt hl (liveB r hd).2) (Nat.not_lt.2 p2)
        · exact apart r L hl hd p2
        have ho : C.F b o := by rw [← FA]; exact ho
        rcases p2 with p2 | p2
        · exact absurd (h.fin b o ho) (Nat.not_lt.2 p2)
        · exact (wrF b o (.inl p2)).1 ho)
    (fun b off hw hF hG => by
      have hF : C.F b 0 := by rw [← FA]; exact hF
      have hG : C.G b := by rw [← GA]; exact hG
      rcases hw with hw | hw
      · exact (wrF b 0 (.inl hw)).1 hF
      · obtain ⟨x, k, r, o, L, cs, q1, q2, q3, q4, q5, q6, q7, q8⟩ := hand.cells hw
        exact (h.objs r).apart q5 (by rw [h.heap, q3]; rfl) hF hG q6)
    (fun r ks vs L off hr hl hw => by
      have hl : C.loc r = some L := by rw [← lA]; exact hl
      have hr' : (blanks st args (st.kills (args.flatMap (·.gone st)))).heap r = .mp ks vs := hr
      have hd : ((blanks st args (st.kills (args.flatMap (·.gone st)))).heap r).isDead = false := by rw [hr']; rfl
      rcases hw with hw | hw
      · exact absurd hw (apart r L hl hd)
      · obtain ⟨x, k, r', o, L', cs', q1, q2, q3, q4, q5, q6, q7, q8⟩ := hand.cells hw
        have := h.inj r r' L L' hl q5 (liveB r hd).2 (by rw [h.heap, q3]; rfl) q6
        subst this
        obtain ⟨cs2, q9, _⟩ := kills_box (liveB r hd).1 q3
        rcases bl2 r with e | ⟨c1, c2, e1, e2, _⟩
        · rw [hr', q9] at e; cases e
        · rw [hr'] at e2; cases e2)
    (fun r cs L j c hr hl hj hw => by
      have hl : C.loc r = some L := by rw [← lA]; exact hl
      have hd : ((blanks st args (st.kills (args.flatMap (·.gone st)))).heap r).isDead = false := by
        have : (blanks st args (st.kills (args.flatMap (·.gone st)))).heap r = .box cs := hr
        rw [this]; rfl
      rcases hw with hw | hw
      · exact absurd hw (apart r L hl hd)
      · refine ⟨?_, ?_⟩
        · obtain ⟨x, k, r', o, L', cs', q1, q2, q3, q4, q5, q6, q7, q8⟩ := hand.cells hw
          have := h.inj r r' L L' hl q5 (liveB r hd).2 (by rw [h.heap, q3]; rfl) q6
          subst this
          rw [hl] at q5; cases q5
          exact bl3 x k r o cs j c q1 q2 hr (by omega) (by omega) hj
        · have hw' := (post.ranges _ _).2 hw
          have : ∀ (os : List V) (us : List Value), (∀ (i : Nat) (o : V), os[i]? = some o → RA (bare w' (fun b off => Φ b off ∨ Fr b off) C.G) o (us.getD i undef)) → anyC os us L.blk (L.base + j) → ∃ u, w'.cell? ⟨L.blk, L.base + j, none⟩ = some u ∧ u.oneCell' = true := by
            intro os
            induction os with
            | nil => intro us _ hc; exact absurd hc (by cases us <;> simp [anyC])
            | cons o os ih =>
              intro us hr hc
              cases us with
              | nil => exact absurd hc (by simp [anyC])
              | cons u us =>
                simp only [anyC] at hc
                rcases hc with hc | hc
                · have hra := hr 0 o rfl
                  simp only [List.getD_cons_zero] at hra
                  cases o with
                  | io cs2 =>
                    obtain ⟨b, base, cur, e, g, p1, p2, p3⟩ := hra
                    subst p1
                    simp only [boxC] at hc
                    obtain ⟨e1, e2, e3⟩ := hc
                    obtain ⟨c', hc'⟩ : ∃ c', cs2[L.base + j - base]? = some c' := ⟨cs2[L.base + j - base]'(by omega), by simp⟩
                    obtain ⟨a1, a2, _⟩ := p3 _ c' hc'
                    rw [show base + (L.base + j - base) = L.base + j by omega] at a1
                    have p2' : w'.heap[L.blk]? = some (.cells cur e (0, 0)) := by rw [e1]; exact p2
                    exact ⟨_, by rw [cell_of_row _ _ _ _ _ _ p2']; exact a1, a2⟩
                  | _ => exact absurd hc (by simp [boxC])
                · exact ih us (fun i o' hi => by simpa using hr (i + 1) o' (by simpa using hi)) hc
          exact this outs us post.routs hw')
    (fun r s rs L off hr hl hw => by
      have hl : C.loc r = some L := by rw [← lA]; exact hl
      have hr' : (blanks st args (st.kills (args.flatMap (·.gone st)))).heap r = .rows s rs := hr
      have hd : ((blanks st args (st.kills (args.flatMap (·.gone st)))).heap r).isDead = false := by rw [hr']; rfl
      rcases hw with hw | hw
      · exact absurd hw (apart r L hl hd)
      · obtain ⟨x, k, r', o, L', cs', q1, q2, q3, q4, q5, q6, q7, q8⟩ := hand.cells hw
        have := h.inj r r' L L' hl q5 (liveB r hd).2 (by rw [h.heap, q3]; rfl) q6
        subst this
        obtain ⟨cs2, q9, _⟩ := kills_box (liveB r hd).1 q3
        rcases bl2 r with e | ⟨c1, c2, e1, e2, _⟩
        · rw [hr', q9] at e; cases e
        · rw [hr'] at e2; cases e2)
  have lC : ({CA with heap := (blanks st args (st.kills (args.flatMap (·.gone st)))).heap, w := w', F := fun b off => C.F b off ∨ Fr b off} : Ctx).loc = C.loc := lA
  -- free blocks
  have free : ∀ b ∈ ownsR res v ++ listA (ownsA w') outs us, Free E {CA with heap := (blanks st args (st.kills (args.flatMap (·.gone st)))).heap, w := w', F := fun b off => C.F b off ∨ Fr b off} b := fun b hb => by
    obtain ⟨p1, p2⟩ := post.own b hb
    rcases p1 with p1 | p1
    · refine ⟨fun off hF => ?_, ?_, fun off => .inl (Nat.le_trans hsz p1), fun r L hl hd hbb => ?_⟩
      · rcases hF with hF | hF
        · exact absurd (h.fin b off hF) (Nat.not_lt.2 p1)
        · exact p2 off hF
      · show CA.G b
        rw [GA]; exact h.gnew b (Nat.le_trans hsz p1)
      · have hl : C.loc r = some L := by rw [← lA]; exact hl
        subst hbb
        exact absurd ((h.objs r).lt hl (liveB r hd).2) (Nat.not_lt.2 p1)
    · obtain ⟨r', hr', L', s, rs, q1, q2, q3, q4⟩ := blkG _ p1
      subst q2
      refine ⟨fun off hF => ?_, ?_, fun off => (q4.2.2.2.2.2.1 off).2, fun r L hl hd hbb => ?_⟩
      · rcases hF with hF | hF
        · exact (q4.2.2.2.2.2.1 off).1 hF
        · exact p2 off hF
      · show CA.G L'.blk
        rw [GA]; exact q4.2.2.2.2.2.2
      · have hl : C.loc r = some L := by rw [← lA]; exact hl
        exact apart r L hl hd (by rw [hbb]; exact p1)
  obtain ⟨nd1, nd2, ndj⟩ := List.nodup_append.1 post.nodup
  obtain ⟨nd3, _, _⟩ := List.nodup_append.1 nd2
  -- variables come back
  obtain ⟨CD, iD, wD, leD, freeD, deadD⟩ := backs_sound (B := bare w' (fun b off => C.F b off ∨ Fr b off) C.G) (fun _ => rfl) args outs us iC
    (by rw [post.len, ← hlen']) (by rw [post.len, hlen]) (fun _ _ h => h) (fun b hb => by show CA.G b; rw [GA]; exact hb) rfl
    (fun i x k hi => by
      obtain ⟨r, o, L, cs, q1, q2, q3, q4, q5, cv, q6⟩ := hand.io i x k hi
      have hlt : i < outs.length := by rw [post.len]; exact (List.getElem?_eq_some_iff.1 q6).1
      have ho : outs[i]? = some outs[i] := by simp
      obtain ⟨r', off', cs', p1, p2, p3, p4⟩ := outsOk_get hout i x k _ hi ho
      rw [q1] at p1; cases p1
      have hm := List.mem_of_getElem? hi
      have hrn : r ∉ args.flatMap (·.gone st) := fun hr => by
        obtain ⟨s, rs, q7⟩ := hliveG r hr
        rw [q2] at q7; cases q7
      obtain ⟨cs2, q9, q10⟩ := kills_box hrn q2
      have hcs3 : ∃ cs3, (blanks st args (st.kills (args.flatMap (·.gone st)))).heap r = .box cs3 ∧ cs3.length = cs.length := by
        rcases bl2 r with e | ⟨c1, c2, e1, e2, e3, _⟩
        · exact ⟨cs2, by rw [e]; exact q9, q10⟩
        · rw [q9] at e1; cases e1
          exact ⟨c2, e2, by rw [e3]; exact q10⟩
      obtain ⟨cs3, r1, r2⟩ := hcs3
      have hio := post.routs i _ ho
      rw [p2] at hio
      refine ⟨_, ho, ⟨r, o, L, cs3, cs', q1, r1, by omega, by show CA.loc r = some L; rw [lA]; exact q4, q5, p2, p3, ?_, ?_, p4⟩⟩
      · simp only [oldC, q2]; simp; omega
      · exact IoR_mono (C := bare w' (fun b off => Φ b off ∨ Fr b off) C.G) (C' := bare w' (fun b off => C.F b off ∨ Fr b off) C.G) (Le_bare (fun b off hφ => hφ.imp (hf ⟨x, k, hm⟩ b off) id) (fun _ h => h) rfl) rfl hio)
    hndG (fun r hr => by rw [(bl2 r).dead, kills_mem hr]; rfl) hndB (fun b hb => free b (List.mem_append_right _ hb)) nd3
  -- the result
  have hwD : CD.w = w' := wD
  have hres : RB CD res v := RB_mono (C := bare w' (fun b off => (fr = false ∧ Φ b off) ∨ Fr b off) C.G)
    (Le_bare (fun b off hφ => (leD.F b off (by
      rcases hφ with ⟨h1, h2⟩ | h1
      · exact .inl (he h1 b off h2)
      · exact .inr h1)).1) (fun b hb => leD.G b (by show CA.G b; rw [GA]; exact hb)) hwD) hwD post.rres
  obtain ⟨CE, tE, rE⟩ := thaw_sound iD hres (fun b hb => freeD b (free b (List.mem_append_left _ hb)) fun hm => ndj b hb b (List.mem_append_left _ hm) rfl) nd1 hobn
    (fun r hr => by
      have hd := List.all_eq_true.1 hobd r hr
      refine deadD r (by rw [(bl2 r).dead]; exact kills_dead hd) fun hm => ?_
      obtain ⟨s, rs, q⟩ := hliveG r hm
      rw [q] at hd; simp [AO.isDead] at hd) hmb
  exact ⟨v, CE, rfl, tE.w.trans hwD, tE.inv, rE⟩

end Go.Ab

namespace Go.Ab
open Go

variable {E : Ent} {n : Sz} {C : Ctx} {st : St} {a : Act} {P : Program}

theorem call_sound (h : Inv E n C st a) {f : FuncId} {args : List Pm} {objs : List Nat} {d : Option Nat} {K : St → Prop} {us : List Value} (hk : call P f args objs d st K) (hmb : objs ≠ [] → ∀ b, E.Mb b) (hl : args.length = us.length)
    (hR : ∀ (C1 : Ctx) (st1 : St), Inv E n C1 st1 a → C1.w = C.w → C1.F = C.F → C1.G = C.G → (st1 = st ∨ ∃ l, st1 = st.kills l) → ∀ (i : Nat) (p : Pm), args[i]? = some p → R C1 (p.x.ev st1) (us.getD i undef)) :
    Calls P f us.toArray C.w fun e w' => ∃ v C' st' av, e = .returned v ∧ C'.w = w' ∧ Inv E n C' st' a ∧ R C' av v ∧ K (st'.put d av) := by
  obtain ⟨hnd, hobn, hobd, hok, res, outs, fr, hcall, hpl, hout, hK⟩ := hk
  replace hnd := nodupB_iff hnd
  replace hobn := nodupB_iff hobn
  obtain ⟨C1, hi1, w1, F1, G1, l1⟩ := h.kills (args.flatMap (·.gone st) ++ args.flatMap (·.box st))
  have hR1 := hR C1 _ hi1 w1 F1 G1 (.inr ⟨_, rfl⟩)
  have fin : ∀ {Φ : Nat → Nat → Prop}, _ → _ → _ → _ → _ → _ := @fun Φ ha hb he hf hg => Calls.mono (call_core (Φ := Φ) h hl (hR C st h rfl rfl rfl (.inl rfl)) hnd hobn hobd hmb hok hcall hout hi1 F1 l1 ha hb he hf hg)
    (R' := fun e w' => ∃ v C' st' av, e = .returned v ∧ C'.w = w' ∧ Inv E n C' st' a ∧ R C' av v ∧ K (st'.put d av)) fun e w' ⟨v, C', q1, q2, q3, q4⟩ => ⟨v, C', _, _, q1, q2, q3, q4, hK⟩
  rcases hpl with hpl | ⟨hfr, hio⟩
  · refine fin (Φ := C.F) (fun _ _ h => h) (fun i x hi hc => ?_) (fun _ _ _ h => h) (fun _ _ _ h => h) (fun b off hφ => .inl (by rw [F1]; exact hφ))
    have hp := List.all_eq_true.1 hpl _ (List.mem_of_getElem? hi)
    simp only [Pm.plain] at hp
    have := R_sh (frz_plain hi1 4 _ _ (hR1 i _ hi) hp)
    rw [w1, F1, G1] at this
    exact this
  · refine fin (Φ := Lent C1) (fun b off hF => .inl (by rw [F1]; exact hF)) (fun i x hi hc => ?_) (fun e => by rw [hfr] at e; cases e) (fun ⟨x, k, hm⟩ => ?_) (fun _ _ h => h)
    · have hcl : (frz (st.kills (args.flatMap (·.gone st) ++ args.flatMap (·.box st))) 4 (x.ev (st.kills (args.flatMap (·.gone st) ++ args.flatMap (·.box st))))).closed = true := by
        exact closed_of_sh _ hc
      have := R_sh (frz_sound hi1 4 _ _ (hR1 i _ hi) hcl)
      rw [w1, G1] at this
      exact this
    · have : args.any Pm.isIo = true := List.any_eq_true.2 ⟨_, hm, rfl⟩
      rw [hio] at this; cases this

theorem okPms_get : ∀ {args : List Pm} {ys : List Operand}, okPms args ys = true → args.length = ys.length ∧ ∀ (i : Nat) (p : Pm), args[i]? = some p → ∃ y, ys[i]? = some y ∧ okX p.x y = true
  | [], [], _ => ⟨rfl, fun i p hi => by simp at hi⟩
  | [], _ :: _, h => by simp [okPms] at h
  | _ :: _, [], h => by simp [okPms] at h
  | p :: ps, y :: ys, h => by
    simp only [okPms, Bool.and_eq_true] at h
    obtain ⟨h1, h2⟩ := okPms_get h.2
    refine ⟨by simp [h1], fun i q hi => ?_⟩
    cases i with
    | zero =>
      simp only [List.getElem?_cons_zero, Option.some.injEq] at hi
      subst hi
      refine ⟨y, rfl, ?_⟩
      have := h.1
      cases p <;> exact this
    | succ i => simpa using h2 i q (by simpa using hi)

theorem run_callFunc {f : FuncId} (hf : callable P f = true) (args : Array Value) (w : World) : (callFunc f args).run P w = .ok (.enter f args) w := by
  unfold callable at hf
  split at hf
  · rename_i fn hfn
    simp only [Bool.and_eq_true, bne_iff_ne, ne_eq] at hf
    obtain ⟨h1, h2⟩ := hf
    have h3 : fn.body ≠ none := by intro e; rw [e] at h1; cases h1
    simp [callFunc, hfn, h2, h3]
  · cases hf

theorem snd_call {f : FuncId} {args : List Pm} {objs : List Nat} : Snd P (.call f args objs) := by
  intro E n C st a o d K next Q hinv hok hd h hn hmf
  cases hop : o.op <;> rw [hop] at hok <;> simp only [okOp, Bool.false_eq_true] at hok
  rename_i c
  split at hok
  · rename_i g hc
    simp only [Bool.and_eq_true, beq_iff_eq] at hok
    obtain ⟨⟨rfl, hcb⟩, hargs⟩ := hok
    obtain ⟨hl, hget⟩ := okPms_get hargs
    simp only [eff] at h
    have hrun : (execOp a.eval o).run P C.w = .ok (.enter f (c.args.toList.map a.eval).toArray) C.w := by
      have e : (c.args.toList.map a.eval).toArray = c.args.map a.eval := by
        apply Array.ext'; simp
      rw [e]
      have := run_callFunc hcb (c.args.map a.eval) C.w
      simp [execOp, hop, resolve, hc, Deferred.ofValue, Act.eval, invoke, this]
    unfold Oper.wp
    rw [hrun]
    refine Calls.mono (call_sound hinv h (fun hne => hinv.mball (by
    cases hnm : n.nomap with
    | false => rfl
    | true => exact absurd (List.isEmpty_iff.1 (hmf hnm)) hne)) (by simpa using hl) fun C1 st1 hi1 _ _ _ _ i p hi => ?_) ?_
    · obtain ⟨y, hy, hok⟩ := hget i p hi
      have : (List.map a.eval c.args.toList).getD i undef = a.eval y := by simp [List.getD, List.getElem?_map, hy]
      rw [this]
      exact hi1.ev hok
    · rintro e w' ⟨v, C', st', av, rfl, rfl, hi', hR, hK⟩
      exact hn C' _ _ (hi'.put hd hR) hK
  · cases hok

theorem getD_append {α : Type} (rel : Pm → α → Prop) (z : α) : ∀ {l1 l2 : List Pm} {m1 m2 : List α}, l1.length = m1.length → (∀ (i : Nat) p, l1[i]? = some p → rel p (m1.getD i z)) → (∀ (i : Nat) p, l2[i]? = some p → rel p (m2.getD i z)) →
    ∀ (i : Nat) p, (l1 ++ l2)[i]? = some p → rel p ((m1 ++ m2).getD i z) := by
  intro l1 l2 m1 m2 hl h1 h2 i p hi
  by_cases hlt : i < l1.length
  · rw [List.getElem?_append_left hlt] at hi
    rw [List.getD, List.getElem?_append_left (by omega)]
    exact h1 i p hi
  · rw [List.getElem?_append_right (by omega)] at hi
    rw [List.getD, List.getElem?_append_right (by omega), ← hl]
    exact h2 _ p hi

theorem snd_callp {f : FuncId} {args : List Pm} {cands : List Nat} : Snd P (.callp f args cands) := by
  intro E n C st a o d K next Q hinv hok hd h hn hmf
  simp only [eff] at h
  split at h
  · rename_i r _
    have hok' : okOp P (.call f args [r]) o.op = true := by rw [← hok]; cases o.op <;> rfl
    exact snd_call (objs := [r]) hinv hok' hd h hn (fun e => by have := hmf e; simp [O.mapFree] at this)
  · exact h.elim

theorem snd_calln {x : X} {args : List Pm} {objs : List Nat} : Snd P (.calln x args objs) := by
  intro E n C st a o d K next Q hinv hok hd h hn hmf
  cases hop : o.op <;> rw [hop] at hok <;> simp only [okOp, Bool.false_eq_true] at hok
  rename_i c
  split at hok
  · rename_i y hc
    simp only [Bool.and_eq_true] at hok
    obtain ⟨hx, hargs⟩ := hok
    obtain ⟨hl, hget⟩ := okPms_get hargs
    have hX := hinv.ev hx
    simp only [eff] at h
    cases hx' : x.ev st with
    | fn f first caps =>
      rw [hx'] at hX h
      simp only at h
      obtain ⟨hcb, hc1, hc2, hk⟩ := h
      generalize hu : a.eval y = u at hX
      cases hX with
      | fn _ _ _ us ws l1 l2 r1 r2 =>
        have hrun : (execOp a.eval o).run P C.w = .ok (.enter f (us ++ c.args.toList.map a.eval ++ ws).toArray) C.w := by
          have e : (us ++ c.args.toList.map a.eval ++ ws).toArray = us.toArray ++ c.args.map a.eval ++ ws.toArray := by
            apply Array.ext'; simp
          rw [e]
          have := run_callFunc hcb (us.toArray ++ c.args.map a.eval ++ ws.toArray) C.w
          simpa [execOp, hop, resolve, hc, Deferred.ofValue, hu, invoke] using this
        unfold Oper.wp
        rw [hrun]
        have closedR : ∀ {vs : List V} {us : List Value}, V.closedL vs = true → (∀ (j : Nat) (c : V), vs[j]? = some c → R C c (us.getD j undef)) → ∀ (C1 : Ctx), C1.w = C.w → C1.F = C.F → C1.G = C.G →
            ∀ (st1 : St) (i : Nat) (p : Pm), (vs.map fun v => Pm.ro (.k v))[i]? = some p → R C1 (p.x.ev st1) (us.getD i undef) := fun hcl hr C1 w1 F1 G1 st1 i p hi => by
          simp only [List.getElem?_map, Option.map_eq_some_iff] at hi
          obtain ⟨v, hv, rfl⟩ := hi
          exact R.of_closed (C := C) (C' := C1) (fun b off hF => ⟨by rw [F1]; exact hF, by rw [w1]⟩) (fun b hb => by rw [G1]; exact hb) (hr i v hv) (closedL_all hcl i v hv)
        refine Calls.mono (call_sound hinv hk (fun hne => hinv.mball (by
    cases hnm : n.nomap with
    | false => rfl
    | true => exact absurd (List.isEmpty_iff.1 (hmf hnm)) hne)) (us := us ++ c.args.toList.map a.eval ++ ws) (by simp [l1, l2, hl]) fun C1 st1 hi1 w1 F1 G1 _ => ?_) ?_
        · refine getD_append (fun p u => R C1 (p.x.ev st1) u) undef (by simp [l1, hl]) (getD_append (fun p u => R C1 (p.x.ev st1) u) undef (by simp [l1]) (closedR hc1 r1 C1 w1 F1 G1 st1) ?_) (closedR hc2 r2 C1 w1 F1 G1 st1)
          intro i p hi
          obtain ⟨y, hy, hok⟩ := hget i p hi
          have : (List.map a.eval c.args.toList).getD i undef = a.eval y := by simp [List.getD, List.getElem?_map, hy]
          rw [this]
          exact hi1.ev hok
        · rintro e w' ⟨v, C', st', av, rfl, rfl, hi', hR, hK⟩
          exact hn C' _ _ (hi'.put hd hR) hK
    | _ => rw [hx'] at h; exact absurd h (by simp)
  · cases hok

end Go.Ab
