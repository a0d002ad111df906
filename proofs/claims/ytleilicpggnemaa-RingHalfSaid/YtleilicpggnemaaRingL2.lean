/-
  ring.List: a ring's list.
-/
import Derived.Test.YtleilicpggnemaaRingL
import Derived.Test.YtleilicpggnemaaRing3
namespace Go.Ab
open Go Go.Proofs Go.RowKit

theorem ringU_of_R {C : Ctx} {s : Nat → Int} {h m : Int} {u : Value} (hr : R C (.agg (ringC s h m)) u) : u = .agg (ringU s h m) := by
  cases hr with
  | agg cs us hl h1 hr =>
    match us, hl with
    | [u0, u1, u2, u3, u4, u5, u6, u7, u8, u9], _ =>
      have g : ∀ (j : Nat) (k : IntKind) (x : Int), (ringC s h m)[j]? = some (.int k x) → [u0, u1, u2, u3, u4, u5, u6, u7, u8, u9].getD j undef = .int k x := fun j k x e => by
        have := hr j _ e
        generalize [u0, u1, u2, u3, u4, u5, u6, u7, u8, u9].getD j undef = y at this
        cases this; rfl
      have e0 := g 0 _ _ rfl
      have e1 := g 1 _ _ rfl
      have e2 := g 2 _ _ rfl
      have e3 := g 3 _ _ rfl
      have e4 := g 4 _ _ rfl
      have e5 := g 5 _ _ rfl
      have e6 := g 6 _ _ rfl
      have e7 := g 7 _ _ rfl
      have e8 := g 8 _ _ rfl
      have e9 := g 9 _ _ rfl
      simp at e0 e1 e2 e3 e4 e5 e6 e7 e8 e9
      subst e0 e1 e2 e3 e4 e5 e6 e7 e8 e9
      rfl

/-- An own row of numbers. -/
theorem ownR_ints {C : Ctx} {base : Nat} {e : TypeId} {v : Value} {xs : List Int} (h : C.w.ownsRow base e 1 v xs.length (xs.map (Value.int .i64))) (hn : v = .slice none 0 0 ↔ xs = []) : OwnR C 1 (xs.map iC) v := by
  rcases h.2 with ⟨rfl, _⟩ | ⟨g, cap, cur, rfl, _, hgb, hle, hmx, hsz, htk⟩
  · have := hn.1 rfl
    subst this
    exact .inl ⟨rfl, rfl⟩
  · have hne : xs ≠ [] := fun e => by have := hn.2 e; cases this
    have hpos : 0 < xs.length := List.length_pos_iff.2 hne
    refine .inr (.inr ⟨g, cap, cur, e, fun i j => .int .i64 (xs.getD i 0), by simp, by omega, by simpa using hle, hmx, hgb, hsz, fun r hr => ?_, fun i j c hc => ?_⟩)
    · obtain ⟨x, _, rfl⟩ := List.mem_map.1 hr; rfl
    · unfold at2 at hc
      rw [List.getElem?_map] at hc
      cases hx : xs[i]? with
      | none => rw [hx] at hc; cases hc
      | some x =>
        rw [hx] at hc
        have hlt : i < xs.length := (List.getElem?_eq_some_iff.1 hx).1
        have hxd : xs.getD i 0 = x := by rw [List.getD_eq_getElem?_getD, hx]; rfl
        cases j with
        | succ j => simp [iC] at hc
        | zero =>
          simp [iC] at hc
          subst hc
          refine ⟨?_, rfl, rfl, ?_⟩
          · have h2 : (cur.toList.take (xs.length * 1))[i]? = some (.int .i64 (xs.getD i 0)) := by rw [htk, List.getElem?_map, hx, hxd]; rfl
            rw [List.getElem?_take] at h2
            rw [if_pos (by omega)] at h2
            simpa using h2
          · show R C (.int .i64 x) (.int .i64 (xs.getD i 0))
            rw [hxd]; exact .int _ _

theorem owns_ints {w : World} {base : Nat} {e : TypeId} {v : Value} {n : Nat} {ys : List Value} {rows : List (List V)} (h : w.ownsRow base e 1 v n ys) : (ownsR (.own 1 rows) v).Nodup ∧ ∀ b ∈ ownsR (.own 1 rows) v, base ≤ b := by
  rcases h.2 with ⟨rfl, _⟩ | ⟨g, cap, cur, rfl, hbg, _⟩
  · exact ⟨List.nodup_nil, fun b hb => by cases hb⟩
  · simp only [ownsR, owns2, owns1]
    split
    · exact ⟨List.nodup_nil, fun b hb => by cases hb⟩
    · exact ⟨by simp, fun b hb => by simp at hb; omega⟩

theorem c14 (s : Nat → Int) (h m : Int) (xs : List Int) (r : RingIs s h m xs) : CallsV Try.prog 14 [.agg (ringC s h m)] (.own 1 (xs.map iC)) [.undef] true := by
  refine callsV_hand rfl fun w vs F G hl hR => ?_
  match vs, hl with
  | [u], _ =>
    have hu := ringU_of_R (show R _ _ _ from hR 0 _ rfl)
    simp at hu
    subst hu
    refine Calls.mono (callsIn_wide.1 (list_in s h m xs r w)) ?_
    rintro e w' ⟨v, rfl, hrow, hn, hb⟩
    exact ⟨v, rfl, hb, fun F' G' => ownR_ints hrow hn, (owns_ints hrow).1, (owns_ints hrow).2⟩
end Go.Ab
