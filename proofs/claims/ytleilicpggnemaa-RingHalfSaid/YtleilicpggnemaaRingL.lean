/-
  ring.All, ring.List: a ring's numbers come in order; its list.
-/
import Derived.RangeFuncBox
import Derived.RangeFuncLeaves
import Derived.Shelf.Abstract
import Derived.WalkKit
import Derived.OwnWalkIn
import Derived.TacticsInMore
import Derived.LoopNIn
import Derived.LoopIn
import Derived.RangeFuncNested
import Derived.RangeFuncBound
import Derived.RangeFuncCalls
import Derived.Shelf.RegionOpen
import Derived.Maps.AppendAt
import Derived.Test.YtleilicpggnemaaRing2
import Derived.Test.YtleilicpggnemaaMachL
namespace Go.Proofs
open Go.RowKit Go.Shelf Go.Ab

attribute [local go_sem] Oper.semAt_some

/-- A ring, as a value's cells. -/
def ringU (s : Nat → Int) (h m : Int) : Array Value := #[.int .i64 (s 0), .int .i64 (s 1), .int .i64 (s 2), .int .i64 (s 3), .int .i64 (s 4), .int .i64 (s 5), .int .i64 (s 6), .int .i64 (s 7), .int .i64 h, .int .i64 m]

theorem ringU_R (C : Ctx) (s : Nat → Int) (h m : Int) : R C (.agg (ringC s h m)) (.agg (ringU s h m)) := by
  refine .agg _ [_, _, _, _, _, _, _, _, _, _] rfl (by simp [Value.oneCell']) fun j c hj => ?_
  have hlt : j < 10 := by
    rcases Nat.lt_or_ge j 10 with h | h
    · exact h
    · rw [List.getElem?_eq_none (by simpa [ringC] using h)] at hj; cases hj
  have : j = 0 ∨ j = 1 ∨ j = 2 ∨ j = 3 ∨ j = 4 ∨ j = 5 ∨ j = 6 ∨ j = 7 ∨ j = 8 ∨ j = 9 := by omega
  rcases this with e | e | e | e | e | e | e | e | e | e <;> subst e <;> (simp only [ringC] at hj; cases hj; exact .int _ _)

theorem slot_run (w : World) (s : Nat → Int) (h m k : Int) (h0 : 0 ≤ h) (h1 : h < 8) (k0 : 0 ≤ k) (k1 : k ≤ 8) (j : Int) (hj : j = (h + k) % 8) :
    Calls Try.prog 17 #[.agg (ringU s h m), .int .i64 k] w fun e w' => e = .returned (.int .i64 j) ∧ Below w.heap.size w w' := by
  refine Calls.mono ((c17 s h m k h0 h1 k0 k1 j hj).run (vs := [.agg (ringU s h m), .int .i64 k]) (w := w) (F := fun _ _ => False) rfl rfl (fun _ _ h => h.elim) fun i a hi => ?_) ?_
  · cases i with
    | zero => cases hi; exact ringU_R _ s h m
    | succ i =>
      cases i with
      | zero => cases hi; exact .int _ _
      | succ i => simp at hi
  · rintro e w' ⟨v, F', rfl, hr, hb, _⟩
    cases hr
    exact ⟨rfl, hb⟩

theorem may_run (w : World) (s : Nat → Int) (h m : Int) (hm : May s h m) :
    Calls Try.prog 12 #[.agg (ringU s h m)] w fun e w' => e = .returned (.bool true) ∧ Below w.heap.size w w' := by
  refine Calls.mono ((c12 s h m true (by simp [hm])).run (vs := [.agg (ringU s h m)]) (w := w) (F := fun _ _ => False) rfl rfl (fun _ _ h => h.elim) fun i a hi => ?_) ?_
  · cases i with
    | zero => cases hi; exact ringU_R _ s h m
    | succ i => simp at hi
  · rintro e w' ⟨v, F', rfl, hr, hb, _⟩
    cases hr
    exact ⟨rfl, hb⟩

theorem grown_of_below {A B : World} (h : Below A.heap.size A B) : A.grownBy B none := ⟨h.os, h.tape, h.output, h.size, fun k hk _ => h.block k hk⟩

set_option maxRecDepth 100000 in
set_option maxHeartbeats 1000000 in
theorem all1_in (l Bn : Nat) (s : Nat → Int) (h m : Int) (xs : List Int) (r : RingIs s h m xs) (J Jx : List Int → World → Prop)
    (hY : ∀ pre x W, J pre W → pre.length < xs.length → YieldAt Fence.wide (3 - 1) Try.prog l #[.int .i64 x] W fun e W' =>
      (e = .returned (.bool true) ∧ J (pre ++ [x]) W' ∧ W'.heap[Bn]? = W.heap[Bn]?) ∨ (e = .returned (.bool false) ∧ Jx (pre ++ [x]) W'))
    (W : World) (hJ : AbidesFrom W.heap.size J) (hBn : W.heap[Bn]? = some (.cells (ringU s h m) 24 (0, 0))) (h0 : J [] W) :
    CallsIn Fence.wide 3 Try.prog 19 #[.func (.yield l) #[] #[], .pointer (some ⟨Bn, 0, none⟩)] W fun e W' => (∃ v, e = .returned v) ∧
      ((∃ ys, ys = xs ∧ J ys W') ∨ (∃ pre, pre <+: xs ∧ Jx pre W')) := by
  refine callsIn_of_wp Try.func19 rfl trivial ?_ rfl
  simp only [Try.ntmps19, List.size_toArray, List.length_cons, List.length_nil, Nat.reduceAdd, Nat.reduceSub, Array.replicate_succ, Array.replicate_zero, List.push_toArray, List.append_toArray, List.nil_append, List.cons_append]
  have hc9 : W.cell? ⟨Bn, 9, none⟩ = some (.int .i64 m) := by simp [World.cell?, hBn, ringU]
  gi_wp2
  have hm1 := r.m1
  have hm0 : 0 ≤ m ∧ m.toNat = xs.length := by have := r.me; omega
  have rh0 := r.h0
  have rh1 := r.h1
  gi_loopw [6] (fun p wr => ∃ (pre rest : List Int) (i : Int), p = .int .i64 i ∧ 0 ≤ i ∧ i.toNat = pre.length ∧ xs = pre ++ rest ∧ wr.heap[Bn]? = some (.cells (ringU s h m) 24 (0, 0)) ∧ J pre wr)
    (fun p _ => xs.length - (intOf p).toNat)
  case atStart =>
    exact ⟨[], xs, 0, rfl, by omega, rfl, rfl, hBn, h0⟩
  case round =>
    obtain ⟨pre, rest, i, rfl, i0, hi, hx, hBr, hJs⟩ := hrel
    cases rest with
    | nil =>
      have hlen : xs.length = pre.length := by rw [hx]; simp
      have hnlt : ¬ i < m := by omega
      gi_wp2
      go_end0
      exact ⟨⟨_, rfl⟩, .inl hJs⟩
    | cons x rest =>
      have hlen : pre.length < xs.length := by rw [hx]; simp
      have hlt : i < m := by omega
      have c0 : wr.cell? ⟨Bn, 0, none⟩ = some (.int .i64 (s 0)) := by simp [World.cell?, hBr, ringU]
      have c1 : wr.cell? ⟨Bn, 1, none⟩ = some (.int .i64 (s 1)) := by simp [World.cell?, hBr, ringU]
      have c2 : wr.cell? ⟨Bn, 2, none⟩ = some (.int .i64 (s 2)) := by simp [World.cell?, hBr, ringU]
      have c3 : wr.cell? ⟨Bn, 3, none⟩ = some (.int .i64 (s 3)) := by simp [World.cell?, hBr, ringU]
      have c4 : wr.cell? ⟨Bn, 4, none⟩ = some (.int .i64 (s 4)) := by simp [World.cell?, hBr, ringU]
      have c5 : wr.cell? ⟨Bn, 5, none⟩ = some (.int .i64 (s 5)) := by simp [World.cell?, hBr, ringU]
      have c6 : wr.cell? ⟨Bn, 6, none⟩ = some (.int .i64 (s 6)) := by simp [World.cell?, hBr, ringU]
      have c7 : wr.cell? ⟨Bn, 7, none⟩ = some (.int .i64 (s 7)) := by simp [World.cell?, hBr, ringU]
      have c8 : wr.cell? ⟨Bn, 8, none⟩ = some (.int .i64 h) := by simp [World.cell?, hBr, ringU]
      have c9 : wr.cell? ⟨Bn, 9, none⟩ = some (.int .i64 m) := by simp [World.cell?, hBr, ringU]
      have hBs : Bn < wr.heap.size := (Array.getElem?_eq_some_iff.1 hBr).1
      obtain ⟨j, hj⟩ : ∃ j, j = (h + i) % 8 := ⟨_, rfl⟩
      have hxs : s j.toNat = x := by
        rw [show j.toNat = idx h i by unfold idx; omega, r.idx i0 (by omega), hi, hx]; simp
      have hsl := slot_run wr s h m i rh0 rh1 i0 (by omega) j hj
      have hj0 : 0 ≤ j := by omega
      have hj8 : j < 8 := by omega
      clear hj
      gi_wp2
      refine ⟨trivial, ?_⟩
      refine (callsIn_wide.2 hsl).mono ?_
      rintro e w1 ⟨rfl, hb1⟩
      clear hsl c0 c1 c2 c3 c4 c5 c6 c7 c8 c9
      have hBr1 := (hb1.block Bn (by omega)).trans hBr
      have hd : w1.cell? ⟨Bn, j.toNat, none⟩ = some (.int .i64 x) := by
        rw [← hxs]
        rcases eight hj0 hj8 with e | e | e | e | e | e | e | e <;> subst e <;> simp [World.cell?, hBr1, ringU]
      have hJ1 : J pre w1 := hJ pre wr w1 none hJs (grown_of_below hb1) (fun r e => by cases e)
      obtain ⟨fn, tmps, assign, body, hy, hR⟩ := hY pre x w1 hJ1 hlen
      dsimp only
      gi_wp2
      refine hR.mono ?_
      rintro e W3 (⟨rfl, hJ3, hk3⟩ | ⟨rfl, hJx3⟩)
      · have hb3 := hk3.trans hBr1
        clear hy hR hd
        dsimp only
        gi_wp2
        go_roundw
        case rel => exact ⟨pre ++ [x], rest, i + 1, by simp, by omega, by simp; omega, by simp [hx], hb3, hJ3⟩
        case measure => simp [intOf]; omega
      · clear hy hR hd
        dsimp only
        gi_wp2
        refine bodyPost_ret (results_none rfl _ _ _) rfl ?_
        exact ⟨⟨_, rfl⟩, .inr ⟨pre ++ [x], ⟨rest, by simp [hx]⟩, hJx3⟩⟩

set_option maxHeartbeats 1000000 in
theorem all_in (s : Nat → Int) (h m : Int) (w : World) :
    CallsIn Fence.wide 3 Try.prog 18 #[.agg (ringU s h m)] w fun e w' => e = .returned (.func (.func 19) #[] #[.pointer (some ⟨w.heap.size, 0, none⟩)]) ∧ w' = w.alloc (.cells (ringU s h m) 24) := by
  refine callsIn_of_wp Try.func18 rfl trivial ?_ rfl
  simp only [Try.ntmps18, List.size_toArray, List.length_cons, List.length_nil, Nat.reduceAdd, Nat.reduceSub, Array.replicate_succ, Array.replicate_zero, List.push_toArray, List.append_toArray, List.nil_append, List.cons_append]
  gi_wp2
  go_ret
  exact ⟨rfl, rfl⟩

theorem ringCells {W : World} {B : Nat} {s : Nat → Int} {h m : Int} (hB : W.heap[B]? = some (.cells (ringU s h m) 24 (0, 0))) :
    W.cell? ⟨B, 0, none⟩ = some (.int .i64 (s 0)) ∧ W.cell? ⟨B, 1, none⟩ = some (.int .i64 (s 1)) ∧ W.cell? ⟨B, 2, none⟩ = some (.int .i64 (s 2)) ∧ W.cell? ⟨B, 3, none⟩ = some (.int .i64 (s 3)) ∧
    W.cell? ⟨B, 4, none⟩ = some (.int .i64 (s 4)) ∧ W.cell? ⟨B, 5, none⟩ = some (.int .i64 (s 5)) ∧ W.cell? ⟨B, 6, none⟩ = some (.int .i64 (s 6)) ∧ W.cell? ⟨B, 7, none⟩ = some (.int .i64 (s 7)) ∧
    W.cell? ⟨B, 8, none⟩ = some (.int .i64 h) ∧ W.cell? ⟨B, 9, none⟩ = some (.int .i64 m) := by
  refine ⟨?_, ?_, ?_, ?_, ?_, ?_, ?_, ?_, ?_, ?_⟩ <;> simp [World.cell?, hB, ringU]

/-- **ring.All(r) HANDS BACK A VALUE THAT YIELDS THE RING's NUMBERS, IN ORDER.** -/
theorem all_stops (Bn : Nat) (s : Nat → Int) (h m : Int) (xs : List Int) (r : RingIs s h m xs) (w : World) (hBn : w.heap[Bn]? = some (.cells (ringU s h m) 24 (0, 0))) :
    SeqStopsK Fence.wide 3 Try.prog 19 #[.pointer (some ⟨Bn, 0, none⟩)] (fun x : Int => #[Value.int .i64 x]) (fun A B => B.heap[Bn]? = A.heap[Bn]?) (fun ys => ys = xs) (fun pre => pre <+: xs) xs.length w := fun l J Jx W hW hJ _ hY h0 =>
  all1_in l Bn s h m xs r J Jx hY W hJ ((hW.block Bn (Array.getElem?_eq_some_iff.1 hBn).1).trans hBn) h0

theorem info3 : (Try.prog.info? 3).map (fun i => (i.zero, i.size, i.bytes)) = some (some (.int .i64 0), 1, 8) := by kernel_rfl

set_option maxRecDepth 100000 in
set_option maxHeartbeats 2000000 in
theorem list_in (s : Nat → Int) (h m : Int) (xs : List Int) (r : RingIs s h m xs) (w : World) :
    CallsIn Fence.wide 4 Try.prog 14 #[.agg (ringU s h m)] w fun e W' => ∃ v, e = .returned v ∧ W'.ownsRow w.heap.size 3 1 v xs.length (xs.map (Value.int .i64)) ∧ (v = .slice none 0 0 ↔ xs = []) ∧ Below w.heap.size w W' := by
  obtain ⟨i0, hi, hz0, hz1, hz2⟩ := info_parts info3
  have hm1 := r.m1
  refine callsIn_of_wp_marks Try.func14 rfl trivial ?_ rfl
  simp only [Try.ntmps14, List.size_toArray, List.length_cons, List.length_nil, Nat.reduceAdd, Nat.reduceSub, Array.replicate_succ, Array.replicate_zero, List.push_toArray, List.append_toArray, List.nil_append, List.cons_append]
  have hB0 : (w.alloc (.cells (ringU s h m) 24)).heap[w.heap.size]? = some (.cells (ringU s h m) 24 (0, 0)) := World.alloc_heap_new w _
  obtain ⟨c0, c1, c2, c3, c4, c5, c6, c7, c8, c9⟩ := ringCells hB0
  have hbA : Below w.heap.size w (w.alloc (.cells (ringU s h m) 24)) := (Below.refl _ w).alloc (Nat.le_refl _) _
  have hsA : (w.alloc (.cells (ringU s h m) 24)).heap.size = w.heap.size + 1 := by simp
  gi_wp2
  refine ⟨trivial, ?_⟩
  refine (callsIn_wide.2 (may_run _ s h m r.may)).mono ?_
  rintro e w1 ⟨rfl, hb1⟩
  rw [hsA] at hb1
  clear c0 c1 c2 c3 c4 c5 c6 c7 c8 c9
  have hB1 : w1.heap[w.heap.size]? = some (.cells (ringU s h m) 24 (0, 0)) := (hb1.block _ (by omega)).trans hB0
  have hs1 := hb1.size
  rw [hsA] at hs1
  have hbB : Below w.heap.size w w1 := hbA.trans (hb1.mono (by omega))
  clear hb1 hbA hB0 hsA
  have hB2 : (w1.alloc (.cells #[.slice none 0 0] 25)).heap[w.heap.size]? = some (.cells (ringU s h m) 24 (0, 0)) := (Below.heap_alloc _ _ _ (by omega)).trans hB1
  obtain ⟨c0, c1, c2, c3, c4, c5, c6, c7, c8, c9⟩ := ringCells hB2
  dsimp only
  gi_wp2
  refine ⟨trivial, ?_⟩
  refine (all_in s h m _).mono ?_
  rintro e w2 ⟨rfl, rfl⟩
  clear c0 c1 c2 c3 c4 c5 c6 c7 c8 c9
  dsimp only
  gi_wp2
  have hsz2 : (w1.alloc (.cells #[.slice none 0 0] 25)).heap.size = w1.heap.size + 1 := by simp
  have bO : Boxed (w1.alloc (.cells #[.slice none 0 0] 25)) w1.heap.size 25 (.slice none 0 0) := Boxed.new w1 25 (.slice none 0 0)
  have bN : ((w1.alloc (.cells #[.slice none 0 0] 25)).alloc (.cells (ringU s h m) 24)).heap[w1.heap.size + 1]? = some (.cells (ringU s h m) 24 (0, 0)) := by
    have := World.alloc_heap_new (w1.alloc (.cells #[.slice none 0 0] 25)) (.cells (ringU s h m) 24)
    rwa [hsz2] at this
  have hbC : Below w.heap.size w ((w1.alloc (.cells #[.slice none 0 0] 25)).alloc (.cells (ringU s h m) 24)) := (hbB.alloc (by omega) _).alloc (by rw [hsz2]; omega) _
  have hsz3 : ((w1.alloc (.cells #[.slice none 0 0] 25)).alloc (.cells (ringU s h m) 24)).heap.size = w1.heap.size + 2 := by rw [World.size_alloc, hsz2]
  rw [hsz2]
  refine wpIn_rangeFunc_ownG rfl (by omega) (gf := 19) (lb := #[.pointer (some ⟨w1.heap.size + 1, 0, none⟩)]) rfl trivial (enters_of Try.func19 (by kernel_rfl) rfl)
    (all_stops (w1.heap.size + 1) s h m xs r _ bN) (fun {A B C} h k => k.trans h) (fun W l o o' hl ho _ _ => World.putObj_heap_other (by omega)) (Below.refl _ _) (fun _ => rfl)
    (fun pre W => (∃ v, Boxed W w1.heap.size 25 v ∧ W.ownsRow w.heap.size 3 1 v pre.length (pre.map (Value.int .i64)) ∧ (v = .slice none 0 0 ↔ pre = [])) ∧ Below w.heap.size w W ∧ W.heap[w1.heap.size + 1]? = some (.cells (ringU s h m) 24 (0, 0)))
    (fun _ _ _ => False)
    (OwnFrom.and (Own.from (holdsRow_own w.heap.size w1.heap.size 25 3 1 (fun pre => pre.length) (fun pre => pre.map (Value.int .i64)) (fun pre v => v = .slice none 0 0 ↔ pre = [])) _) (OwnFrom.and (ownFrom_below (Nat.le_refl _) (by omega))
      (fun s' A B row hs hg hr => (grownBy_keeps_cells hg (fun r e => (hr r e).2) hs rfl).trans hs)))
    (fun _ _ _ _ _ hs _ _ => hs)
    ⟨⟨_, bO.alloc _, World.ownsRow_nil _ _ _ _, by simp⟩, hbC, bN⟩
    (fun x => { tmps := #[.agg (ringU s h m), .pointer (some ⟨w.heap.size, 0, none⟩), .slice none 0 0, .pointer (some ⟨w1.heap.size, 0, none⟩), .int .i64 x, .agg (ringU s h m), .bool true, .bool false, .agg (ringU s h m), .func (.func 19) #[] #[.pointer (some ⟨w1.heap.size + 1, 0, none⟩)], .int .i64 x, undef, undef, undef, undef, undef], defers := [] }) ?assign ?body ?done ?stop
  case assign =>
    intro l x W K hK
    gi_wp2
    exact hK
  case body =>
    rintro l pre x W ⟨⟨v, hv, hrow, hnil⟩, hB, hR⟩ hlt
    have hc := hv.cell
    have hbs := hB.size
    gi_wp2_with (gi_at_builtin; refine wpListIn_append_own _ rfl _ _ 25 rfl w.heap.size 3 i0 (.int .i64 0) 1 8 Try.underlying25 hi hz0 hz1 hz2 rfl (by decide) _ _ _ rfl (hrow.alloc _) ⟨W.heap.size, 0, none⟩ 1 1 [.int .i64 x] rfl rfl (cell_one_new _ _ _) (by simp [Value.oneCell']) (by simp [maxLen]; omega) (by omega) (by simp; omega) ?_; intro v' w3 hown' hgrow _; obtain ⟨g', cap', rfl⟩ := ownsRow_succ hown'; obtain ⟨hv1, hv2, hr2, hk2, hb2⟩ := hv.appended (by decide) hrow hB.size (by omega) hown' hgrow; have hc1 := hv1.cell; have hf1 := hv1.frozen)
    have hne : some (w1.heap.size + 1) ≠ v.ownBlock := by
      rcases hrow.2 with ⟨rfl, _⟩ | ⟨g, cap, cur, rfl, _, hgb, _⟩
      · simp [Value.ownBlock]
      · intro e'
        obtain rfl : w1.heap.size + 1 = g := by simpa [Value.ownBlock] using e'
        have := hR.symm.trans hgb
        simp at this
    have hlW := (Array.getElem?_eq_some_iff.1 hR).1
    have hkeep : (w3.setCell ⟨w1.heap.size, 0, none⟩ (.slice (some ⟨g', 0, none⟩) (pre.length + 1) cap')).heap[w1.heap.size + 1]? = W.heap[w1.heap.size + 1]? := by
      rw [Below.heap_setCell _ _ _ _ (by simp), hgrow.block _ (by simp; omega) hne, Below.heap_alloc _ _ _ (by omega)]
    exact ⟨hk2.from _, hkeep, ⟨_, hv2, by simpa using hr2, by simp⟩, hB.trans hb2, hkeep.trans hR⟩
  case done =>
    rintro D ys W hD rfl ⟨⟨v, hv, hrow, hnil⟩, hB, hR⟩ hK
    have hc := hv.cell
    gi_wp2
    refine ⟨by simp, .inl ⟨_, _, rfl, run_takeDeferred hK, ?_⟩⟩
    exact ⟨_, results_tmp rfl _ _ _, v, rfl, ownsRow_putObj hrow _ hK rfl, hnil, hB.trans (belowK_b (w := w) (Nat.le_refl _) W D _ _ (by omega) hK rfl rfl)⟩
  case stop =>
    rintro D c pre W _ _ h _
    exact h.elim
end Go.Proofs
