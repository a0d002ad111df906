/-
  The arguments of the laws of the stage 'ring', as they are read.
-/
import Derived.Test.YtleilicpggnemaaRingL2
import Derived.ProofKit
import Derived.OpenShut
namespace Go.Ab
open Go Go.Proofs Go.RowKit Go.ChangeShapes

section
variable {H : Type} {enc : TypeId × Value → H} {W : World} {base : Nat} {sp : Nat → Bool} {held : Bool} {r : Go.Reach} {b0 : Nat} {v : Value} {d : DataW H} {p : List MemPlace}

theorem trod_int1 {P : Program} {t : TypeId} {k : IntKind} (ht : P.underlying t = some (.int k)) {fuel : Nat} {c : Value} {x : DataW H × List MemPlace} (h : DataW.trod enc P W base sp held fuel t [c] = some x) : ∃ n, c = .int k n := by
  cases fuel with
  | zero => simp [DataW.trod] at h
  | succ n =>
    unfold DataW.trod at h
    rw [ht] at h
    split at h <;> simp_all

theorem open_ring (hval : Value.okWide Try.prog W r b0 24 v) (h : DataW.Trod enc Try.prog W base sp held 24 v d p) : ∃ s h m, v = .agg (ringU s h m) := by
  have hc : Try.prog.cellsOf 24 = 10 := by kernel_rfl
  have hc3 : Try.prog.cellsOf 3 = 1 := by kernel_rfl
  have hc22 : Try.prog.cellsOf 22 = 8 := by kernel_rfl
  obtain ⟨fs, hu, hf0, hf1, hf2⟩ : ∃ fs, Try.prog.underlying 24 = some (.struct fs) ∧ (∃ f, fs[0]? = some f ∧ f.type = 22 ∧ f.offset = 0) ∧ (∃ f, fs[1]? = some f ∧ f.type = 3 ∧ f.offset = 8) ∧ (∃ f, fs[2]? = some f ∧ f.type = 3 ∧ f.offset = 9) :=
    ⟨_, Try.underlying24, ⟨_, rfl, rfl, rfl⟩, ⟨_, rfl, rfl, rfl⟩, ⟨_, rfl, rfl, rfl⟩⟩
  unfold Value.okWide at hval
  rw [hu] at hval
  obtain ⟨cs, rfl, hsz, _⟩ := hval
  rw [hc] at hsz
  obtain ⟨fuel, h⟩ := h
  obtain ⟨l, rfl⟩ : ∃ l : List Value, cs = l.toArray := ⟨cs.toList, by simp⟩
  simp only [List.size_toArray] at hsz
  match l, hsz with
  | [u0, u1, u2, u3, u4, u5, u6, u7, u8, u9], _ =>
    have hcells : (Value.agg #[u0, u1, u2, u3, u4, u5, u6, u7, u8, u9]).cells.toList = [u0, u1, u2, u3, u4, u5, u6, u7, u8, u9] := rfl
    rw [hcells] at h
    obtain ⟨xs, n, rfl, _, _, hlen, hf⟩ := DataW.trod_struct hu h
    obtain ⟨f0, e0, t0, o0⟩ := hf0
    obtain ⟨f1, e1, t1, o1⟩ := hf1
    obtain ⟨f2, e2, t2, o2⟩ := hf2
    have g0 := hf 0 f0 e0
    have g1 := hf 1 f1 e1
    have g2 := hf 2 f2 e2
    rw [t0, o0, hc22] at g0
    rw [t1, o1, hc3] at g1
    rw [t2, o2, hc3] at g2
    have hs0 := (Array.getElem?_eq_some_iff.1 e0).1
    have hs1 := (Array.getElem?_eq_some_iff.1 e1).1
    have hs2 := (Array.getElem?_eq_some_iff.1 e2).1
    rw [List.getElem?_eq_getElem (by omega)] at g0 g1 g2
    obtain ⟨a8, ha8⟩ := trod_int1 Try.underlying3 (show DataW.trod enc Try.prog W base sp held n 3 [u8] = some _ from g1)
    obtain ⟨a9, ha9⟩ := trod_int1 Try.underlying3 (show DataW.trod enc Try.prog W base sp held n 3 [u9] = some _ from g2)
    obtain ⟨ys, k, rfl, _, _, hyl, hy⟩ := DataW.trod_array Try.underlying22 (show DataW.trod enc Try.prog W base sp held n 22 [u0, u1, u2, u3, u4, u5, u6, u7] = some _ from g0)
    rw [hc3] at hy
    have q : ∀ i (hi : i < 8) (c : Value), ([u0, u1, u2, u3, u4, u5, u6, u7].drop (i * 1)).take 1 = [c] → ∃ z, c = .int .i64 z := fun i hi c hc => by
      have := hy i hi
      rw [hc, List.getElem?_eq_getElem (by omega)] at this
      exact trod_int1 Try.underlying3 this
    obtain ⟨z0, rfl⟩ := q 0 (by omega) u0 rfl
    obtain ⟨z1, rfl⟩ := q 1 (by omega) u1 rfl
    obtain ⟨z2, rfl⟩ := q 2 (by omega) u2 rfl
    obtain ⟨z3, rfl⟩ := q 3 (by omega) u3 rfl
    obtain ⟨z4, rfl⟩ := q 4 (by omega) u4 rfl
    obtain ⟨z5, rfl⟩ := q 5 (by omega) u5 rfl
    obtain ⟨z6, rfl⟩ := q 6 (by omega) u6 rfl
    obtain ⟨z7, rfl⟩ := q 7 (by omega) u7 rfl
    subst ha8 ha9
    exact ⟨fun j => [z0, z1, z2, z3, z4, z5, z6, z7].getD j 0, a8, a9, rfl⟩

theorem open_list (hval : Value.okWide Try.prog W r b0 25 v) (h : DataW.Trod enc Try.prog W base sp held 25 v d p) :
    ∃ l : List Int, l.length < 9223372036854775808 ∧ ∀ (F : Nat → Nat → Prop) (G : Nat → Prop), (∀ b off, b < W.heap.size → F b off) → R (bare W F G) (.sl false 1 (l.map iC)) v := by
  have hc3 : Try.prog.cellsOf 3 = 1 := by kernel_rfl
  obtain ⟨fuel, h⟩ := h
  unfold Value.okWide at hval
  rw [Try.underlying25] at hval
  simp only at hval
  have hv : v.cells.toList = [v] := by
    unfold Cell.okWide at hval
    rw [Try.underlying25] at hval
    cases v <;> first | rfl | (simp [Cell.ok, Try.underlying25] at hval)
  rw [hv] at h
  rcases open_ints Try.underlying25 Try.underlying3 hc3 h with ⟨e, _⟩ | ⟨a, len, cap, zs, e, _, hlc, hcm, hzl, _, hcell, _⟩
  · cases e
    exact ⟨[], by simp, fun F G hF => .slNil false 1⟩
  · cases e
    have hspot : a.spot = none := by
      unfold Cell.okWide at hval
      rw [Try.underlying25] at hval
      simp only [Cell.ok, Try.underlying25] at hval
      exact hval.2.2.2.1
    obtain ⟨b, off, spot⟩ := a
    simp only at hspot
    subst hspot
    have hlz : len ≤ zs.length := by split at hzl <;> omega
    have hm : cap < 9223372036854775808 := by unfold maxLen at hcm; omega
    refine ⟨zs.take len, by simp; omega, fun F G hF => ?_⟩
    have hlen : ((zs.take len).map iC).length = len := by simp; omega
    have at_ : ∀ i j c, at2 ((zs.take len).map iC) i j = some c → i < len ∧ j = 0 ∧ c = .int .i64 (zs.getD i 0) := fun i j c hcj => by
      unfold at2 at hcj
      rw [List.getElem?_map] at hcj
      cases hx : (zs.take len)[i]? with
      | none => rw [hx] at hcj; cases hcj
      | some x =>
        rw [hx] at hcj
        have hlt : i < len := by have := (List.getElem?_eq_some_iff.1 hx).1; simp at this; omega
        rw [List.getElem?_take, if_pos hlt] at hx
        cases j with
        | succ j => simp [iC] at hcj
        | zero =>
          simp [iC] at hcj
          exact ⟨hlt, rfl, by rw [← hcj, List.getD_eq_getElem?_getD, hx]; rfl⟩
    have := R.sl (C := bare W F G) false 1 ((zs.take len).map iC) b off cap (fun i j => .int .i64 (zs.getD i 0)) (by rw [hlen]; exact hlc) hcm (fun rr hrr => by obtain ⟨x, _, rfl⟩ := List.mem_map.1 hrr; rfl) (fun e => by cases e)
      (fun i j c hcj => by
        obtain ⟨hi, rfl, rfl⟩ := at_ i j c hcj
        have hce := hcell i (by omega)
        have hce' : W.cell? ⟨b, off + i * 1 + 0, none⟩ = some (.int .i64 (zs.getD i 0)) := by
          rw [← hce]; congr 1
          unfold Addr.add
          split
          · rename_i e; subst e; rfl
          · simp
        refine ⟨hce', hF _ _ ?_, rfl⟩
        unfold World.cell? at hce'
        cases hb : W.heap[b]? with
        | none => rw [hb] at hce'; cases hce'
        | some o => exact (Array.getElem?_eq_some_iff.1 hb).1)
      (fun i j c hcj => by obtain ⟨hi, rfl, rfl⟩ := at_ i j c hcj; rfl)
      (fun i j c hcj => by obtain ⟨hi, rfl, rfl⟩ := at_ i j c hcj; exact .int _ _)
    rw [hlen] at this
    exact this
end
end Go.Ab
