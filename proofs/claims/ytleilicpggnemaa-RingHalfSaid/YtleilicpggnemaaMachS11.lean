/-
  Each operation of the abstract machine is what the model's operation does: append.
-/
import Derived.Test.YtleilicpggnemaaMachS10
namespace Go.Ab
open Go

variable {E : Ent} {n : Sz} {C : Ctx} {st : St} {a : Act} {P : Program}

/-- What is appended, as cells. -/
structure Src (P : Program) (C : Ctx) (s : Nat) (ys : List (List V)) (u : Value) (news : List Value) : Prop where
  slice : ∃ ao cap, u = .slice ao ys.length cap
  len : news.length = ys.length * s
  width : ∀ r ∈ ys, r.length = s
  cells : ∀ i j c, at2 ys i j = some c → ∃ x, news[i * s + j]? = some x ∧ c.closed = true ∧ R C c x
  one : ∀ x ∈ news, x.oneCell' = true
  run : ∀ w', w'.heap = C.w.heap → (Builtin.firstCells s ys.length u).run P w' = .ok news.toArray w'

theorem at2_of {ys : List (List V)} {s p : Nat} (hw : ∀ r ∈ ys, r.length = s) (hs : 0 < s) (hp : p < ys.length * s) : ∃ c, at2 ys (p / s) (p % s) = some c := by
  have h1 : p / s < ys.length := (Nat.div_lt_iff_lt_mul hs).2 hp
  have h2 : p % s < ys[p / s].length := by rw [hw _ (List.getElem_mem h1)]; exact Nat.mod_lt _ hs
  exact ⟨ys[p / s][p % s], by unfold at2; rw [List.getElem?_eq_getElem h1]; exact List.getElem?_eq_getElem h2⟩

theorem src_rows {ys : List (List V)} {s b base cap : Nat} (hs : 0 < s) (hw : ∀ r ∈ ys, r.length = s) (g : Nat → Nat → Value)
    (h : ∀ i j c, at2 ys i j = some c → C.w.cell? ⟨b, base + i * s + j, none⟩ = some (g i j) ∧ (g i j).oneCell' = true ∧ c.closed = true ∧ R C c (g i j)) :
    Src P C s ys (.slice (some ⟨b, base, none⟩) ys.length cap) ((List.range (ys.length * s)).map fun p => g (p / s) (p % s)) := by
  refine ⟨⟨_, _, rfl⟩, by simp, hw, fun i j c hij => ?_, fun x hx => ?_, fun w' hw' => ?_⟩
  · obtain ⟨hi, hc⟩ := at2_lt hij
    have hj : j < s := by rw [← hw _ (List.getElem_mem hi)]; exact (List.getElem?_eq_some_iff.1 hc).1
    obtain ⟨d1, d2⟩ := div_of (i := i) hj
    have hlt : i * s + j < ys.length * s := by
      have : i * s + s ≤ ys.length * s := by rw [← Nat.succ_mul]; exact Nat.mul_le_mul_right _ hi
      omega
    exact ⟨g i j, by simp [hlt, d1, d2], (h i j c hij).2.2.1, (h i j c hij).2.2.2⟩
  · simp only [List.mem_map, List.mem_range] at hx
    obtain ⟨p, hp, rfl⟩ := hx
    obtain ⟨c, hc⟩ := at2_of hw hs hp
    exact (h _ _ c hc).2.1
  · refine run_firstCells_some w' s ys.length ⟨b, base, none⟩ ys.length cap _ (by simp) fun p v hv => ?_
    simp only [List.getElem?_map, Option.map_eq_some_iff] at hv
    obtain ⟨q, hq, rfl⟩ := hv
    obtain ⟨hlt, rfl⟩ := List.getElem?_eq_some_iff.1 hq
    simp only [List.length_range] at hlt
    simp only [List.getElem_range]
    obtain ⟨c, hc⟩ := at2_of hw hs hlt
    have := (h _ _ c hc).1
    rw [addr_add]
    have e : base + p / s * s + p % s = base + p := by
      have := Nat.div_add_mod p s
      rw [Nat.mul_comm] at this
      omega
    rw [e] at this
    rw [← this]
    exact World.cell?_of_block (a := ⟨b, base + p, none⟩) (by rw [hw'])

theorem src_nil {s : Nat} {ao : Option Addr} {cap : Nat} : Src P C s [] (.slice ao 0 cap) [] := by
  refine ⟨⟨_, _, rfl⟩, by simp, by simp, fun i j c hij => by simp [at2] at hij, by simp, fun w' _ => ?_⟩
  cases ao with
  | none => simp [Builtin.firstCells]
  | some b => simp [Builtin.firstCells, loadCells, loadCellsFrom]

theorem at2_seg {rs : List (List V)} {j m i k : Nat} {c : V} (h : at2 ((rs.drop j).take m) i k = some c) : at2 rs (j + i) k = some c ∧ i < m := by
  unfold at2 at h ⊢
  rw [List.getElem?_take] at h
  split at h
  · rename_i hi; rw [List.getElem?_drop] at h; exact ⟨h, hi⟩
  · cases h

theorem src_of (hinv : Inv E n C st a) {s : Nat} (h0 : 0 < s) {v : V} {u : Value} (hR : R C v u) {ys : List (List V)} (hs : srcRows st s v = some ys) : ∃ news, Src P C s ys u news := by
  unfold srcRows at hs
  split at hs
  · rename_i f s' ys'
    split at hs
    · rename_i e; subst e; cases hs
      cases hR with
      | slNil => exact ⟨_, src_nil⟩
      | sl _ _ _ b base cap g hc hm hu hfr hcell hcl hr => exact ⟨_, src_rows h0 hu g fun i j c hij => ⟨(hcell i j c hij).1, (hcell i j c hij).2.2, hcl i j c hij, hr i j c hij⟩⟩
    · cases hs
  · cases hs
    cases hR with
    | nils => exact ⟨_, src_nil⟩
    | nilsSome => exact ⟨_, src_nil⟩
  · rename_i r j m
    split at hs
    · rename_i s' rs hh
      split at hs
      · rename_i e; subst e; cases hs
        rw [← hinv.heap] at hh
        cases hR with
        | sref _ _ _ s2 rs2 L g1 g2 g3 =>
          rw [hh] at g1; cases g1
          have ho := hinv.objs r
          unfold ObjOk at ho
          rw [hh] at ho
          rcases ho with ⟨_, ho⟩ | ⟨L', hl', q0, q1, q2, q3, ⟨cur, e, g, hb, hcs, hc⟩, _⟩
          · rw [g2] at ho; cases ho
          rw [g2] at hl'; cases hl'
          have hlen : ((rs.drop j).take m).length = m := by simp; omega
          have hsub : ∀ r ∈ (rs.drop j).take m, r.length = s' := fun r hr => q3 r (List.drop_subset _ _ (List.take_subset _ _ hr))
          have := src_rows (P := P) (C := C) (b := L.blk) (base := j * s') (cap := L.cap - j) h0 hsub (fun i k => g (j + i) k) (fun i k c hij => by
            obtain ⟨h1, _⟩ := at2_seg hij
            obtain ⟨a1, a2, a3, a4⟩ := hc _ _ _ h1
            refine ⟨?_, a2, a3, a4⟩
            rw [cell_of_row _ _ _ _ _ _ hb, ← a1]
            congr 1
            rw [Nat.add_mul])
          rw [hlen] at this
          exact ⟨_, this⟩
        | srefNil _ _ g1 g2 =>
          rw [hh] at g1; cases g1
          exact ⟨_, by simpa using (src_nil (P := P) (C := C) (s := s') (ao := none) (cap := 0))⟩
        | srefZ _ _ s2 rs2 ab ao g1 g2 => exact ⟨_, by simpa using (src_nil (P := P) (C := C) (s := s') (ao := some ⟨ab, ao, none⟩) (cap := 0))⟩
      · cases hs
    · cases hs
  · cases hs

section runs
variable (w : World) {t t' ty e e2 s bytes : Nat} {i : TypeInfo} {z : Value} (ht : P.underlying t = some (.slice e)) (ht' : P.underlying t' = some (.slice e2)) (hi : P.info? e = some i)
  (hs : i.size = s) (hb : i.bytes = bytes) (hz : i.zero = some z)
include ht ht' hi hs

theorem run_app_zero {ao ao' : Option Addr} {cap : Nat} {news : List Value} (hn : news = []) (hx : (Builtin.firstCells s 0 (.slice ao' 0 cap)).run P w = .ok news.toArray w) :
    (Builtin.append_ #[t, t'] ty #[.slice ao 0 0, .slice ao' 0 cap]).run P w = .ok (.slice ao 0 0) w := by
  subst hn
  cases ao <;> simp [Builtin.append_, run_underlying ht, run_underlying ht', sizeOf, typeInfo, hi, hs, Builtin.lenOf, hx, storeCells]

theorem run_app_room {b k cap m : Nat} {cur : Array Value} {e' : TypeId} {ao' : Option Addr} {cap' : Nat} {news : List Value} (hg : w.heap[b]? = some (.cells cur e' (0, 0))) (hcs : cur.size = cap * s)
    (hroom : k + m ≤ cap) (hl : news.length = m * s) (h1 : ∀ x ∈ news, x.oneCell' = true) (hx : (Builtin.firstCells s m (.slice ao' m cap')).run P w = .ok news.toArray w) :
    (Builtin.append_ #[t, t'] ty #[.slice (some ⟨b, 0, none⟩) k cap, .slice ao' m cap']).run P w =
      .ok (.slice (some ⟨b, 0, none⟩) (k + m) cap) (w.setRow b (cur.toList.take (k * s) ++ news ++ cur.toList.drop (k * s + news.length)).toArray) := by
  have hfit : k * s + news.length ≤ cur.size := by rw [hl, hcs, ← Nat.add_mul]; exact Nat.mul_le_mul_right _ hroom
  have hst := run_storeCells_at P b (k * s) e' news 0 cur w hg (by simpa using hfit) h1
  simp only [Nat.add_zero] at hst
  simp [Builtin.append_, run_underlying ht, run_underlying ht', sizeOf, typeInfo, hi, hs, Builtin.lenOf, hroom, hx, addr_add, hst]

include hb hz
theorem run_app_grow {ao : Option Addr} {k cap m : Nat} {ao' : Option Addr} {cap' : Nat} {olds news : List Value} (hgrow : cap < k + m) (h63 : k + m ≤ 140737488355328) (h47 : (k + m) * bytes ≤ 140737488355328) (hb0 : 0 < bytes)
    (ho : (Builtin.firstCells s k (.slice ao k cap)).run P w.drew = .ok olds.toArray w.drew) (hx : (Builtin.firstCells s m (.slice ao' m cap')).run P w.drew = .ok news.toArray w.drew) :
    (Builtin.append_ #[t, t'] ty #[.slice ao k cap, .slice ao' m cap']).run P w =
      .ok (.slice (some ⟨w.heap.size, 0, none⟩) (k + m) (grownCap w (k + m) cap e)) (w.drew.alloc (.cells (olds.toArray ++ news.toArray ++ Builtin.zeroCells z.cells (grownCap w (k + m) cap e - (k + m))) e)) := by
  have hn : ¬ (k + m ≤ cap) := by omega
  have h63' : ¬ (9223372036854775807 < ((k : Int) + (m : Int))) := by omega
  have h48 := growslice_fits hgrow h47
  have h48' : ¬ (281474976710656 < Builtin.nextslicecap (k + m) cap * bytes) := by omega
  have hb1 : bytes ≠ 0 := by omega
  simp [Builtin.append_, run_underlying ht, run_underlying ht', sizeOf, typeInfo, zeroValue, hi, hs, hb, hz, Builtin.lenOf, hn, hb1, h48', Question.forced, ho, hx, newRow, grownCap]
  congr 2
  apply Array.ext'
  simp [List.append_assoc]

end runs

theorem Src.mono {C' : Ctx} {s : Nat} {ys : List (List V)} {u : Value} {news : List Value} (h : Src P C s ys u news) (hw : C'.w = C.w) (hF : ∀ b off, C.F b off → C'.F b off) (hG : ∀ b, C.G b → C'.G b) : Src P C' s ys u news :=
  ⟨h.slice, h.len, h.width, fun i j c hij => let ⟨x, h1, h2, h3⟩ := h.cells i j c hij; ⟨x, h1, h2, h3.of_closed (fun b off hf => ⟨hF b off hf, by rw [hw]⟩) hG h2⟩, h.one, fun w' hw' => h.run w' (by rw [hw', hw])⟩

theorem Src.nil {s : Nat} {u : Value} {news : List Value} (h : Src P C s [] u news) : news = [] := List.eq_nil_of_length_eq_zero (by simpa using h.len)

/-- A slice of length and capacity 0, for a new one without elements. -/
theorem Inv.mkSlZ (h : Inv E n C st a) {s : Nat} {mode d : Option Nat} {K : St → Prop} (ao : Option Addr) (hao : ∀ x, ao = some x → x.spot = none) (hk : newSl s [] mode d st K) :
    ∃ C' st' v, Inv E n C' st' a ∧ C'.w = C.w ∧ R C' v (.slice ao 0 0) ∧ K (st'.put d v) := by
  cases mode with
  | none =>
    refine ⟨C, st, _, h, rfl, ?_, hk⟩
    cases ao with
    | none => exact .slNil true s
    | some ad =>
      obtain ⟨b, off, spot⟩ := ad
      have := hao _ rfl
      simp only at this
      subst this
      exact .sl true s [] b off 0 (fun _ _ => undef) (by simp) (by simp [maxLen]) (by simp) (by simp) (fun i j c hij => by simp [at2] at hij) (fun i j c hij => by simp [at2] at hij) (fun i j c hij => by simp [at2] at hij)
  | some r =>
    obtain ⟨h0, hk⟩ := hk
    obtain ⟨C', h1, h2, h3, _⟩ := h.newNil (s := s) h0
    refine ⟨C', _, _, h1, h2, ?_, hk⟩
    cases ao with
    | none => exact h3
    | some ad =>
      have hh : C'.heap r = .rows s [] := by rw [h1.heap]; simp [St.set, upd]
      obtain ⟨b, off, spot⟩ := ad
      have := hao _ rfl
      simp only at this
      subst this
      exact .srefZ r 0 s [] b off hh (Nat.zero_le _)

theorem at2_append {rs ys : List (List V)} {i j : Nat} {c : V} (h : at2 (rs ++ ys) i j = some c) : (i < rs.length ∧ at2 rs i j = some c) ∨ (rs.length ≤ i ∧ at2 ys (i - rs.length) j = some c) := by
  unfold at2 at h ⊢
  by_cases hi : i < rs.length
  · rw [List.getElem?_append_left hi] at h; exact .inl ⟨hi, h⟩
  · rw [List.getElem?_append_right (by omega)] at h; exact .inr ⟨by omega, h⟩

/-- Old and new cells, one behind the other. -/
theorem Src.cat {s : Nat} {rs ys : List (List V)} {u v : Value} {olds news : List Value} (h : Src P C s rs u olds) (h' : Src P C s ys v news) {i j : Nat} {c : V} (hij : at2 (rs ++ ys) i j = some c) :
    ∃ x, (olds ++ news)[i * s + j]? = some x ∧ x.oneCell' = true ∧ c.closed = true ∧ R C c x := by
  rcases at2_append hij with ⟨hi, hc⟩ | ⟨hi, hc⟩
  · obtain ⟨x, h1, h2, h3⟩ := h.cells i j c hc
    have hlt := (List.getElem?_eq_some_iff.1 h1).1
    exact ⟨x, by rw [List.getElem?_append_left hlt]; exact h1, h.one x (List.mem_of_getElem? h1), h2, h3⟩
  · obtain ⟨x, h1, h2, h3⟩ := h'.cells _ j c hc
    have e : i * s + j = olds.length + ((i - rs.length) * s + j) := by
      rw [h.len, ← Nat.add_assoc, ← Nat.add_mul]
      congr 2; omega
    exact ⟨x, by rw [e, List.getElem?_append_right (by omega)]; simpa using h1, h'.one x (List.mem_of_getElem? h1), h2, h3⟩

/-- Cells of a block that nobody holds are written. -/
theorem Inv.setFree (h : Inv E n C st a) {b : Nat} {cur cur' : Array Value} {e : TypeId} (hf : Free E C b) (hb : C.w.heap[b]? = some (.cells cur e (0, 0))) (hs : cur'.size = cur.size) :
    Inv E n { C with w := C.w.setRow b cur' } st a ∧ Le C { C with w := C.w.setRow b cur' } := by
  have hblk : (C.w.setRow b cur').heap[b]? = some (.cells cur' e (0, 0)) := setRow_heap C.w b cur cur' e _ hb
  have hle : Le C { C with w := C.w.setRow b cur' } :=
    ⟨fun b' off hx => ⟨hx, World.cell?_of_block (a := ⟨b', off, none⟩) (setRow_ext_ne fun e => hf.F off (e ▸ hx))⟩, fun _ h => h, fun _ cs _ h => ⟨⟨cs, h⟩, rfl⟩, fun _ _ rs _ h => ⟨⟨rs, h, rfl⟩, rfl⟩⟩
  exact ⟨{ heap := h.heap, env := fun t => (h.env t).mono hle
           objs := fun r => (h.objs r).mono hle rfl rfl fun L hl ha => ⟨setRow_ext_ne (hf.obj r L hl ha), fun _ h => h, fun h => h⟩
           inj := h.inj
           fin := fun b' off hx => by simp only; rw [size_setRow]; exact h.fin b' off hx
           gnew := h.gnew, gsub := h.gsub, par := h.par, fnew := h.fnew
           frame := ⟨h.frame.os, h.frame.output, h.frame.tape, by simp only; rw [size_setRow]; exact h.frame.size, fun b' hlt => by
             have hsame := h.frame.same b' hlt
             by_cases hbb : b' = b
             · subst hbb
               simp only
               rw [hblk]
               rw [hb] at hsame
               cases ho : E.w0.heap[b']? with
               | none => rw [ho] at hsame; simp [sameBut] at hsame
               | some o =>
                 rw [ho] at hsame
                 cases o with
                 | cells c e1 fr =>
                   simp only [sameBut] at hsame ⊢
                   obtain ⟨s1, s2, s3, s4⟩ := hsame
                   refine ⟨s1, s2, hs.trans s3, fun off hw => ?_⟩
                   rcases hf.W off with h1 | h1
                   · omega
                   · exact absurd h1 hw
                 | _ => simp [sameBut] at hsame
             · simp only
               rw [setRow_ext_ne hbb]; exact hsame⟩
           defers := h.defers, size := h.size }, hle⟩

theorem okOp_app {s bytes : Nat} {x y : X} {mode : Option Nat} {op : Op} (h : okOp P (.app s bytes x y mode) op = true) :
    ∃ c x' y' t t' e e2 i z, op = .call c ∧ c.callee = .builtin .append ∧ c.args = #[x', y'] ∧ c.argTypes = #[t, t'] ∧ P.underlying t = some (.slice e) ∧ P.underlying t' = some (.slice e2) ∧ P.info? e = some i ∧ i.size = s ∧ i.bytes = bytes ∧ 0 < bytes ∧ 0 < s ∧
      i.zero = some z ∧ z.cells.size = s ∧ okX x x' = true ∧ okX y y' = true := by
  cases op with
  | call c =>
    simp only [okOp] at h
    split at h
    · rename_i x' y' t t' hc ha ht
      simp only [Bool.and_eq_true] at h
      obtain ⟨⟨⟨h1, h2⟩, h3⟩, h4⟩ := h
      split at h1
      · rename_i e hu
        split at h2
        · rename_i e2 hu2
          cases hi : P.info? e with
          | none => simp [hi] at h1
          | some i =>
            simp only [hi, Option.any_some, Bool.and_eq_true, beq_iff_eq, decide_eq_true_eq] at h1
            obtain ⟨⟨⟨⟨q1, q2⟩, q3⟩, q4⟩, q5⟩ := h1
            split at q5
            · rename_i z hz
              exact ⟨c, x', y', t, t', e, e2, i, z, rfl, hc, by rw [← ha], by rw [← ht], hu, hu2, hi, q1, q2, q3, q4, hz, by simpa using q5, h3, h4⟩
            · cases q5
        · cases h2
      · cases h1
    · cases h
  | _ => simp [okOp] at h

theorem snd_app {s bytes : Nat} {x y : X} {mode : Option Nat} : Snd P (.app s bytes x y mode) := by
  intro E n C st a o d K next Q hinv hok hd h hn
  obtain ⟨c, x', y', t, t', e, e2, i, z, hop, hc, ha, hty, ht, ht', hi, hs, hb, hb0, h0, hz, hzs, hx, hy⟩ := okOp_app hok
  have hX := hinv.ev hx
  have hY := hinv.ev hy
  have hexec : ∀ v w', (Builtin.append_ #[t, t'] o.type #[a.eval x', a.eval y']).run P C.w = .ok v w' → (execOp a.eval o).run P C.w = .ok (.value v) w' := by
    intro v w' hr
    simp [execOp, hop, resolve, hc, ha, hty, invoke, builtin, hr]
  -- a base without room
  have zero : ∀ (C1 : Ctx) (st1 : St) (ys : List (List V)) (news : List Value) (ao : Option Addr), Inv E n C1 st1 a → C1.w = C.w → a.eval x' = .slice ao 0 0 → (∀ x, ao = some x → x.spot = none) → Src P C1 s ys (a.eval y') news →
      ys.length * bytes ≤ 140737488355328 → newSl s ys mode d st1 K → o.wp P a C.w next Q := by
    intro C1 st1 ys news ao h1 hw hu hao hsrc hbd hk
    obtain ⟨ao', cap', hu'⟩ := hsrc.slice
    rw [hu, hu'] at hexec
    rw [hu'] at hsrc
    by_cases hm : ys.length = 0
    · have : ys = [] := List.eq_nil_of_length_eq_zero hm
      subst this
      obtain ⟨C', st', v, g1, g2, g3, g4⟩ := h1.mkSlZ ao hao hk
      have hrun := run_app_zero C.w (ty := o.type) ht ht' hi hs (ao := ao) (ao' := ao') (cap := cap') hsrc.nil (hsrc.run C.w (by rw [hw]))
      rw [← hw, ← g2] at hrun
      have := hexec _ _ (by rw [← hw, ← g2]; exact hrun)
      exact wp_value this (hn C' _ _ (g1.put hd g3) g4)
    · have hy63 : ys.length ≤ 140737488355328 := Nat.le_trans (Nat.le_mul_of_pos_right _ hb0) hbd
      have hrun := run_app_grow C.w (ty := o.type) ht ht' hi hs hb hz (ao := ao) (k := 0) (cap := 0) (m := ys.length) (ao' := ao') (cap' := cap') (olds := []) (by omega) (by omega) (by simpa using hbd) hb0
        ((src_nil (P := P) (C := C1) (s := s) (ao := ao) (cap := 0)).run _ (by rw [hw]; rfl)) (hsrc.run _ (by rw [hw]; rfl))
      simp only [Nat.zero_add] at hrun
      have hge := grownCap_ge C.w ys.length 0 e
      have hcm := grownCap_le_maxLen C.w ys.length 0 e (by simp [maxLen]; omega)
      have hnew : NewRow C1 (C.w.drew.alloc (.cells (#[] ++ news.toArray ++ Builtin.zeroCells z.cells (grownCap C.w ys.length 0 e - ys.length)) e)) C.w.heap.size (grownCap C.w ys.length 0 e) s ys := by
        refine ⟨by rw [hw]; exact (Ext.drew _).trans (Ext.alloc _ _), by rw [hw]; exact Nat.le_refl _, hge, hcm, hsrc.width, _, e, fun i j => news.getD (i * s + j) undef, heap_alloc_new C.w.drew _, ?_, fun i j c hij => ?_⟩
        · simp only [Array.size_append, List.size_toArray, size_zeroCells, hzs, hsrc.len, List.size_toArray, List.length_nil, Nat.zero_add]
          rw [← Nat.add_mul]; congr 1; omega
        · obtain ⟨q, q1, q2, q3⟩ := hsrc.cells i j c hij
          have hlt := (List.getElem?_eq_some_iff.1 q1).1
          have eq : news.getD (i * s + j) undef = q := by simp [List.getD, q1]
          dsimp only
          rw [eq]
          refine ⟨?_, hsrc.one q (List.mem_of_getElem? q1), q2, q3⟩
          rw [Array.getElem?_append_left (by simpa using hlt), Array.getElem?_append_right (by simp)]
          simpa using q1
      obtain ⟨C', st', v, g1, g2, g3, g4⟩ := h1.mkSl hnew hk
      have := hexec _ _ hrun
      rw [show (List.toArray ([] : List Value)) = #[] from rfl, ← g2] at this
      exact wp_value this (hn C' _ _ (g1.put hd g3) g4)
  -- a base in a block
  have blk : ∀ (C1 : Ctx) (st1 : St) (rs ys : List (List V)) (news : List Value) (b cap : Nat), Inv E n C1 st1 a → C1.w = C.w → a.eval x' = .slice (some ⟨b, 0, none⟩) rs.length cap → Free E C1 b → OwnAt C1 b cap s rs → Src P C1 s ys (a.eval y') news →
      (rs.length + ys.length) * bytes ≤ 140737488355328 → newSl s (rs ++ ys) mode d st1 K → o.wp P a C.w next Q := by
    intro C1 st1 rs ys news b cap h1 hw hu hf hown hsrc hbd hk
    obtain ⟨ao', cap', hu'⟩ := hsrc.slice
    rw [hu, hu'] at hexec
    rw [hu'] at hsrc
    obtain ⟨cur, e', g, hcur, hcs, hcell⟩ := hown.cells
    have hold : Src P C1 s rs (.slice (some ⟨b, 0, none⟩) rs.length cap) _ := src_rows (P := P) (C := C1) (b := b) (base := 0) (cap := cap) h0 hown.width g (fun i j c hij => by
      obtain ⟨a1, a2, a3, a4⟩ := hcell i j c hij
      exact ⟨by rw [Nat.zero_add, cell_of_row _ _ _ _ _ _ hcur]; exact a1, a2, a3, a4⟩)
    generalize ((List.range (rs.length * s)).map fun p => g (p / s) (p % s)) = olds at hold
    by_cases hroom : rs.length + ys.length ≤ cap
    · rw [hw] at hcur
      have hrun := run_app_room C.w (ty := o.type) ht ht' hi hs hcur hcs hroom hsrc.len hsrc.one (hsrc.run C.w (by rw [hw]))
      have hfit : rs.length * s + news.length ≤ cur.size := by rw [hsrc.len, hcs, ← Nat.add_mul]; exact Nat.mul_le_mul_right _ hroom
      obtain ⟨sp1, sp2⟩ := splice_get (vs := news) (cur := cur) (o := rs.length * s) rfl hfit
      generalize (cur.toList.take (rs.length * s) ++ news ++ cur.toList.drop (rs.length * s + news.length)).toArray = cur' at hrun sp1 sp2
      obtain ⟨h2, l2⟩ := h1.setFree hf (by rw [hw]; exact hcur) sp1
      have hf2 : Free E { C1 with w := C1.w.setRow b cur' } b := ⟨hf.F, hf.G, hf.W, hf.obj⟩
      have hown2 : OwnAt { C1 with w := C1.w.setRow b cur' } b cap s (rs ++ ys) := by
        refine ⟨by simpa using hroom, hown.max, fun r hr => ?_, cur', e', fun i j => cur'.getD (i * s + j) undef, by simp only; rw [hw]; exact setRow_heap _ _ _ _ _ _ hcur, sp1.trans hcs, fun i j c hij => ?_⟩
        · rcases List.mem_append.1 hr with h | h
          · exact hown.width r h
          · exact hsrc.width r h
        · have main : ∃ q, cur'[i * s + j]? = some q ∧ q.oneCell' = true ∧ c.closed = true ∧ R C1 c q := by
            rcases at2_append hij with ⟨hi', hc'⟩ | ⟨hi', hc'⟩
            · obtain ⟨a1, a2, a3, a4⟩ := hcell i j c hc'
              refine ⟨_, ?_, a2, a3, a4⟩
              rw [sp2, if_neg]
              · exact a1
              · rintro ⟨q1, _⟩
                obtain ⟨_, hjc⟩ := at2_lt hc'
                have hj : j < s := by rw [← hown.width _ (List.getElem_mem hi')]; exact (List.getElem?_eq_some_iff.1 hjc).1
                have : i * s + s ≤ rs.length * s := by rw [← Nat.succ_mul]; exact Nat.mul_le_mul_right _ hi'
                omega
            · obtain ⟨q, q1, q2, q3⟩ := hsrc.cells _ j c hc'
              have hlt := (List.getElem?_eq_some_iff.1 q1).1
              have e : i * s + j = rs.length * s + ((i - rs.length) * s + j) := by rw [← Nat.add_assoc, ← Nat.add_mul]; congr 2; omega
              refine ⟨q, ?_, hsrc.one q (List.mem_of_getElem? q1), q2, q3⟩
              rw [sp2, if_pos (by omega), e, Nat.add_sub_cancel_left]
              exact q1
          obtain ⟨q, m1, m2, m3, m4⟩ := main
          have ee : cur'.getD (i * s + j) undef = q := by rw [Array.getD_eq_getD_getElem?, m1]; rfl
          dsimp only
          rw [ee]
          exact ⟨m1, m2, m3, m4.mono l2⟩
      obtain ⟨C', st', v, g1, g2, g3, g4⟩ := h2.take hf2 hown2 hk
      simp only [List.length_append] at g3
      have := hexec _ _ hrun
      simp only at g2
      rw [← hw, ← g2] at this
      rw [← hw]
      exact wp_value this (hn C' _ _ (g1.put hd g3) g4)
    · have hy63 : rs.length + ys.length ≤ 140737488355328 := Nat.le_trans (Nat.le_mul_of_pos_right _ hb0) hbd
      have hrun := run_app_grow C.w (ty := o.type) ht ht' hi hs hb hz (ao := some ⟨b, 0, none⟩) (k := rs.length) (cap := cap) (m := ys.length) (ao' := ao') (cap' := cap') (by omega) hy63 hbd hb0
        (hold.run _ (by rw [hw]; rfl)) (hsrc.run _ (by rw [hw]; rfl))
      have hge := grownCap_ge C.w (rs.length + ys.length) cap e
      have hcm := grownCap_le_maxLen C.w (rs.length + ys.length) cap e (by simp [maxLen]; omega)
      have hnew : NewRow C1 (C.w.drew.alloc (.cells (olds.toArray ++ news.toArray ++ Builtin.zeroCells z.cells (grownCap C.w (rs.length + ys.length) cap e - (rs.length + ys.length))) e)) C.w.heap.size (grownCap C.w (rs.length + ys.length) cap e) s (rs ++ ys) := by
        refine ⟨by rw [hw]; exact (Ext.drew _).trans (Ext.alloc _ _), by rw [hw]; exact Nat.le_refl _, by simpa using hge, hcm, fun r hr => ?_, _, e, fun i j => (olds ++ news).getD (i * s + j) undef, heap_alloc_new C.w.drew _, ?_, fun i j c hij => ?_⟩
        · rcases List.mem_append.1 hr with h | h
          · exact hown.width r h
          · exact hsrc.width r h
        · simp only [Array.size_append, List.size_toArray, size_zeroCells, hzs, hsrc.len, hold.len]
          rw [← Nat.add_mul, ← Nat.add_mul]; congr 1; omega
        · obtain ⟨q, q1, q2, q3, q4⟩ := hold.cat hsrc hij
          have hlt := (List.getElem?_eq_some_iff.1 q1).1
          have eq : (olds ++ news).getD (i * s + j) undef = q := by simp only [List.getD, q1, Option.getD_some]
          dsimp only
          rw [eq]
          refine ⟨?_, q2, q3, q4⟩
          rw [Array.getElem?_append_left (by simpa using hlt)]
          rw [show olds.toArray ++ news.toArray = (olds ++ news).toArray by simp, List.getElem?_toArray]
          exact q1
      obtain ⟨C', st', v, g1, g2, g3, g4⟩ := h1.mkSl hnew hk
      simp only [List.length_append] at g3
      have := hexec _ _ hrun
      rw [← g2] at this
      exact wp_value this (hn C' _ _ (g1.put hd g3) g4)
  simp only [eff] at h
  split at h
  · exact h.elim
  · rename_i ys hys
    obtain ⟨news, hsrc⟩ := src_of (P := P) hinv h0 hY hys
    split at h
    · rename_i s1 ex
      rw [ex] at hX
      generalize hev : a.eval x' = u at hX
      cases hX with
      | nils => exact zero C st ys news none hinv rfl hev (by simp) hsrc h.1 h.2
      | nilsSome _ b off => exact zero C st ys news (some ⟨b, off, none⟩) hinv rfl hev (fun x hx => by cases hx; rfl) hsrc h.1 h.2
    · rename_i r i0 m ex
      rw [ex] at hX
      split at h
      · rename_i s' rs hh
        obtain ⟨rfl, rfl, hm, hbd, hk⟩ := h
        obtain ⟨C1, h1, w1, F1, G1, loc1⟩ := hinv.kills [r]
        have hsrc1 : Src P C1 s' ys (a.eval y') news := hsrc.mono w1 (by rw [F1]; exact fun _ _ h => h) (by rw [G1]; exact fun _ h => h)
        have hdead : ((st.kills [r]).heap r).isDead = true := by simp [St.kills, St.killP, inl, AO.isDead]
        have hk' : newSl s' (rs ++ ys) mode d (st.kills [r]) K := by
          cases mode with
          | none => exact hk
          | some r' =>
            obtain ⟨rfl, hk⟩ := hk
            refine ⟨hdead, ?_⟩
            rw [hm] at hk
            simpa using hk
        have hhC := hh
        rw [← hinv.heap] at hhC
        generalize hev : a.eval x' = u at hX
        cases hX with
        | sref _ _ _ s2 rs2 L g1 g2 g3 =>
          rw [hhC] at g1; cases g1
          subst hm
          have ho := hinv.objs r
          unfold ObjOk at ho
          rw [hhC] at ho
          rcases ho with ⟨_, ho⟩ | ⟨L', hl', q0, q1, q2, q3, ⟨cur, e', g, hb', hcs, hcl⟩, hw, hG⟩
          · rw [g2] at ho; cases ho
          rw [g2] at hl'; cases hl'
          have halive : ∀ r', (C1.heap r').isDead = false → r' ≠ r ∧ (C.heap r').isDead = false := by
            intro r' hr'
            rw [h1.heap] at hr'
            rw [hinv.heap]
            by_cases er : r' = r
            · subst er; rw [hdead] at hr'; cases hr'
            · refine ⟨er, ?_⟩
              simp only [St.kills, St.killP, inl, Bool.or_false, beq_iff_eq, er, if_false] at hr'
              cases hq : st.heap r' with
              | dead => rw [hq] at hr'; simp [AO.kill, AO.isDead] at hr'
              | _ => rfl
          refine blk C1 _ rs ys news L.blk L.cap h1 w1 (by rw [hev]; simp) ⟨fun off => by rw [F1]; exact (hw off).1, by rw [G1]; exact hG, fun off => (hw off).2, fun r' L' k1 k2 k3 => ?_⟩ ⟨q1, q2, q3, cur, e', g, by rw [w1]; exact hb', hcs, fun i j c hij => ?_⟩ hsrc1 hbd hk'
          · obtain ⟨n1, n2⟩ := halive r' k2
            rw [loc1] at k1
            exact n1 (hinv.inj r' r L' L k1 g2 n2 (by rw [hhC]; rfl) k3)
          · obtain ⟨a1, a2, a3, a4⟩ := hcl i j c hij
            exact ⟨a1, a2, a3, a4.of_closed (fun b off hf => ⟨by rw [F1]; exact hf, by rw [w1]⟩) (fun b hb => by rw [G1]; exact hb) a3⟩
        | srefNil _ _ g1 g2 =>
          rw [hhC] at g1; cases g1
          exact zero C1 _ ys news none h1 w1 hev (by simp) hsrc1 (by simpa using hbd) hk'
        | srefZ _ _ s2 rs2 b off g1 g2 =>
          have : rs = [] := List.eq_nil_of_length_eq_zero hm.symm
          subst this
          exact zero C1 _ ys news (some ⟨b, off, none⟩) h1 w1 hev (fun x hx => by cases hx; rfl) hsrc1 (by simpa using hbd) hk'
      · exact h.elim
    · exact h.elim

end Go.Ab
