/-
  No cell of these rows narrows 'for every input' (looked for: loops, veiled, ifaces, maps, wideKeys, modest, calm, conditions, laid).
  DERIVED. THE GIVEN ROWS OF THIS SEAT. 4 by the template 'for every input the law returns true; each argument reads behind the call as it read before'; 0 by the template 'total and deterministic' (their statements: YtleilicpggnemaaTotals.lean).
  GIVEN WITH THE SEED: the statements are not yours to turn. If you find one false, say at which input.
  Laid BY PROGRAM, IN A SANDBOX (cutbox-rows.mjs): the forced cells as the released guide's own fill.sh prints them over the translation f88fe5c306c0e126… (all of the seat's roots in one cut). By AI agents, Wed Nov 11 2026. No macro, syntax, notation, axiom, sorry.
-/
import Derived.Test.YtleilicpggnemaaChecked
import GoSem.Claim
import GoSem.ClaimJoined
import GoSem.ClaimMapViews
import Derived.JoinedTies
import Derived.KernelRfl
namespace Go.Proofs.Ytleilicpggnemaa
/- THE CELL 'sum', in the pinned program and in every row, IS THE sha256 OF THE DUMP (.gsa) THAT YtleilicpggnemaaProg.lean LOADS. Nothing in Lean hashes anything: it is a label: what it is worth is what the hold of that sum in a sandbox is worth. -/
noncomputable def Try.pinned : Pinned := { name := "ytleilicpggnemaa", sum := "f88fe5c306c0e1267fa0799a5cac281e74bb536081c45f05a89c9a84f8953fc7", checked := Try.checked }
namespace Rows
def none {H : Type} : Left H := { results := [], args := [] }

/-- 'shuttlecocklaw09.RingQueue': WHATEVER THE INPUT: true; the input reads as it did. -/
def ringQueueSpec : ChangeSpec := { name := "ringQueue", fn := fun _ => fun
  | [d1, d2] => { results := [.lit (.bool true)], args := [d1, d2] }
  | _ => none }
def ringQueueRow : OpenClaim := { program := "ytleilicpggnemaa", sum := "f88fe5c306c0e1267fa0799a5cac281e74bb536081c45f05a89c9a84f8953fc7", func := "shuttlecock/shuttlecocklaw09.RingQueue", spec := "ringQueue", unfollowed := true, recurses := true, apart := false }
def RingQueueSaid : Prop := ringQueueRow.holds Try.pinned (OpenSpec.ofChange ringQueueSpec)

/-- ITS FALSE NEIGHBOUR: 'it returns false'. Refute it at one input. -/
def ringQueueWrong : ChangeSpec := { name := "ringQueue", fn := fun _ => fun
  | [d1, d2] => { results := [.lit (.bool false)], args := [d1, d2] }
  | _ => none }
def RingQueueWrongFalsely : Prop := ringQueueRow.holds Try.pinned (OpenSpec.ofChange ringQueueWrong)

/-- 'shuttlecocklaw09.RingHalf': WHATEVER THE INPUT: true; the input reads as it did. -/
def ringHalfSpec : ChangeSpec := { name := "ringHalf", fn := fun _ => fun
  | [d] => { results := [.lit (.bool true)], args := [d] }
  | _ => none }
def ringHalfRow : OpenClaim := { program := "ytleilicpggnemaa", sum := "f88fe5c306c0e1267fa0799a5cac281e74bb536081c45f05a89c9a84f8953fc7", func := "shuttlecock/shuttlecocklaw09.RingHalf", spec := "ringHalf", unfollowed := true, recurses := true, apart := false }
def RingHalfSaid : Prop := ringHalfRow.holds Try.pinned (OpenSpec.ofChange ringHalfSpec)

/-- ITS FALSE NEIGHBOUR: 'it returns false'. Refute it at one input. -/
def ringHalfWrong : ChangeSpec := { name := "ringHalf", fn := fun _ => fun
  | [d] => { results := [.lit (.bool false)], args := [d] }
  | _ => none }
def RingHalfWrongFalsely : Prop := ringHalfRow.holds Try.pinned (OpenSpec.ofChange ringHalfWrong)

/-- 'shuttlecocklaw09.RingOf': WHATEVER THE INPUT: true; the input reads as it did. -/
def ringOfSpec : ChangeSpec := { name := "ringOf", fn := fun _ => fun
  | [d] => { results := [.lit (.bool true)], args := [d] }
  | _ => none }
def ringOfRow : OpenClaim := { program := "ytleilicpggnemaa", sum := "f88fe5c306c0e1267fa0799a5cac281e74bb536081c45f05a89c9a84f8953fc7", func := "shuttlecock/shuttlecocklaw09.RingOf", spec := "ringOf", unfollowed := true, recurses := true, apart := false }
def RingOfSaid : Prop := ringOfRow.holds Try.pinned (OpenSpec.ofChange ringOfSpec)

/-- ITS FALSE NEIGHBOUR: 'it returns false'. Refute it at one input. -/
def ringOfWrong : ChangeSpec := { name := "ringOf", fn := fun _ => fun
  | [d] => { results := [.lit (.bool false)], args := [d] }
  | _ => none }
def RingOfWrongFalsely : Prop := ringOfRow.holds Try.pinned (OpenSpec.ofChange ringOfWrong)

/-- 'shuttlecocklaw09.RingRound': WHATEVER THE INPUT: true; the input reads as it did. -/
def ringRoundSpec : ChangeSpec := { name := "ringRound", fn := fun _ => fun
  | [d1, d2] => { results := [.lit (.bool true)], args := [d1, d2] }
  | _ => none }
def ringRoundRow : OpenClaim := { program := "ytleilicpggnemaa", sum := "f88fe5c306c0e1267fa0799a5cac281e74bb536081c45f05a89c9a84f8953fc7", func := "shuttlecock/shuttlecocklaw09.RingRound", spec := "ringRound", unfollowed := true, recurses := true, apart := false }
def RingRoundSaid : Prop := ringRoundRow.holds Try.pinned (OpenSpec.ofChange ringRoundSpec)

/-- ITS FALSE NEIGHBOUR: 'it returns false'. Refute it at one input. -/
def ringRoundWrong : ChangeSpec := { name := "ringRound", fn := fun _ => fun
  | [d1, d2] => { results := [.lit (.bool false)], args := [d1, d2] }
  | _ => none }
def RingRoundWrongFalsely : Prop := ringRoundRow.holds Try.pinned (OpenSpec.ofChange ringRoundWrong)

/- THE SECOND FORM. 'bulk': how many values and letters a reading holds, each counted each time it is reached (what is shared counts as often as it is met; a slice's spare places count too). A statement '..UptoSaid' is the law's where the arguments, and the package variables that the reading takes, are together of bulk at most 1048576: NARROWER than '..Said'. Prove '..Said' where nothing that the law and all that it calls make is longer than what came in: it says more and counts as full. Else prove '..UptoSaid'. A law counts once. -/
mutual
def uptoBulk {H : Type} : DataW H → Nat
  | .lit (.string bytes) => bytes.length + 1
  | .lit _ => 1
  | .nil => 1
  | .ptr d => uptoBulk d + 1
  | .slice elems spare => uptoBulkAll elems + uptoBulkAll spare + 1
  | .agg parts => uptoBulkAll parts + 1
  | .iface _ d => uptoBulk d + 1
  | .map entries => uptoBulkEntries entries + 1
  | .held _ => 1
def uptoBulkAll {H : Type} : List (DataW H) → Nat
  | [] => 0
  | d :: r => uptoBulk d + uptoBulkAll r
def uptoBulkEntries {H : Type} : List (Lit × DataW H) → Nat
  | [] => 0
  | x :: r => uptoBulkEntry x + uptoBulkEntries r
def uptoBulkEntry {H : Type} : Lit × DataW H → Nat
  | (.string bytes, d) => bytes.length + uptoBulk d + 1
  | (_, d) => uptoBulk d + 1
 end
def uptoSmall : (H : Type) → List (DataW H) → Bool := fun _ ds => decide (uptoBulkAll ds ≤ 1048576)
def OpenSpec.upto (s : _root_.Go.ChangeSpec) : _root_.Go.OpenSpec := { _root_.Go.OpenSpec.ofChange s with cond := some uptoSmall }

/-- 'shuttlecocklaw09.RingQueue', WHERE WHAT IT READS IS OF BULK AT MOST 1048576: true; the input reads as it did. -/
def ringQueueUptoRow : OpenClaim := { program := "ytleilicpggnemaa", sum := "f88fe5c306c0e1267fa0799a5cac281e74bb536081c45f05a89c9a84f8953fc7", func := "shuttlecock/shuttlecocklaw09.RingQueue", spec := "ringQueue", unfollowed := true, recurses := true, apart := false, narrowed := true }
def RingQueueUptoSaid : Prop := ringQueueUptoRow.holds Try.pinned (OpenSpec.upto ringQueueSpec)

/-- 'shuttlecocklaw09.RingHalf', WHERE WHAT IT READS IS OF BULK AT MOST 1048576: true; the input reads as it did. -/
def ringHalfUptoRow : OpenClaim := { program := "ytleilicpggnemaa", sum := "f88fe5c306c0e1267fa0799a5cac281e74bb536081c45f05a89c9a84f8953fc7", func := "shuttlecock/shuttlecocklaw09.RingHalf", spec := "ringHalf", unfollowed := true, recurses := true, apart := false, narrowed := true }
def RingHalfUptoSaid : Prop := ringHalfUptoRow.holds Try.pinned (OpenSpec.upto ringHalfSpec)

/-- 'shuttlecocklaw09.RingOf', WHERE WHAT IT READS IS OF BULK AT MOST 1048576: true; the input reads as it did. -/
def ringOfUptoRow : OpenClaim := { program := "ytleilicpggnemaa", sum := "f88fe5c306c0e1267fa0799a5cac281e74bb536081c45f05a89c9a84f8953fc7", func := "shuttlecock/shuttlecocklaw09.RingOf", spec := "ringOf", unfollowed := true, recurses := true, apart := false, narrowed := true }
def RingOfUptoSaid : Prop := ringOfUptoRow.holds Try.pinned (OpenSpec.upto ringOfSpec)

/-- 'shuttlecocklaw09.RingRound', WHERE WHAT IT READS IS OF BULK AT MOST 1048576: true; the input reads as it did. -/
def ringRoundUptoRow : OpenClaim := { program := "ytleilicpggnemaa", sum := "f88fe5c306c0e1267fa0799a5cac281e74bb536081c45f05a89c9a84f8953fc7", func := "shuttlecock/shuttlecocklaw09.RingRound", spec := "ringRound", unfollowed := true, recurses := true, apart := false, narrowed := true }
def RingRoundUptoSaid : Prop := ringRoundUptoRow.holds Try.pinned (OpenSpec.upto ringRoundSpec)

end Rows
end Go.Proofs.Ytleilicpggnemaa
