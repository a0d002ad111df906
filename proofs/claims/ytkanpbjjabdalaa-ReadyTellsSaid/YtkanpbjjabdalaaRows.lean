/-
  No cell of these rows narrows 'for every input' (looked for: loops, veiled, ifaces, maps, wideKeys, modest, calm, conditions, laid).
  DERIVED. THE GIVEN ROWS OF THIS SEAT. 9 by the template 'for every input the law returns true; each argument reads behind the call as it read before'; 0 by the template 'total and deterministic' (their statements: YtkanpbjjabdalaaTotals.lean).
  GIVEN WITH THE SEED: the statements are not yours to turn. If you find one false, say at which input.
  Laid BY PROGRAM, IN A SANDBOX (cutbox-rows.mjs): the forced cells as the released guide's own fill.sh prints them over the translation 18c293e7ef67b84b… (all of the seat's roots in one cut). By AI agents, Wed Nov 11 2026. No macro, syntax, notation, axiom, sorry.
-/
import Derived.Test.YtkanpbjjabdalaaChecked
import GoSem.Claim
import GoSem.ClaimJoined
import GoSem.ClaimMapViews
import Derived.JoinedTies
import Derived.KernelRfl
namespace Go.Proofs.Ytkanpbjjabdalaa
/- THE CELL 'sum', in the pinned program and in every row, IS THE sha256 OF THE DUMP (.gsa) THAT YtkanpbjjabdalaaProg.lean LOADS. Nothing in Lean hashes anything: it is a label: what it is worth is what the hold of that sum in a sandbox is worth. -/
noncomputable def Try.pinned : Pinned := { name := "ytkanpbjjabdalaa", sum := "18c293e7ef67b84b2ab6f54ae10f7e6fe9ce1bb2f0c728ab4be437b796bf3922", checked := Try.checked }
namespace Rows
def none {H : Type} : Left H := { results := [], args := [] }

/-- 'shuttlecocklaw13.ReadyTells': WHATEVER THE INPUT: true; the input reads as it did. -/
def readyTellsSpec : ChangeSpec := { name := "readyTells", fn := fun _ => fun
  | [d1, d2, d3] => { results := [.lit (.bool true)], args := [d1, d2, d3] }
  | _ => none }
def readyTellsRow : OpenClaim := { program := "ytkanpbjjabdalaa", sum := "18c293e7ef67b84b2ab6f54ae10f7e6fe9ce1bb2f0c728ab4be437b796bf3922", func := "shuttlecock/shuttlecocklaw13.ReadyTells", spec := "readyTells", unfollowed := true, recurses := true, apart := false }
def ReadyTellsSaid : Prop := readyTellsRow.holds Try.pinned (OpenSpec.ofChange readyTellsSpec)

/-- ITS FALSE NEIGHBOUR: 'it returns false'. Refute it at one input. -/
def readyTellsWrong : ChangeSpec := { name := "readyTells", fn := fun _ => fun
  | [d1, d2, d3] => { results := [.lit (.bool false)], args := [d1, d2, d3] }
  | _ => none }
def ReadyTellsWrongFalsely : Prop := readyTellsRow.holds Try.pinned (OpenSpec.ofChange readyTellsWrong)

/-- 'shuttlecocklaw13.ReadyKeeps': WHATEVER THE INPUT: true; the input reads as it did. -/
def readyKeepsSpec : ChangeSpec := { name := "readyKeeps", fn := fun _ => fun
  | [d1, d2, d3] => { results := [.lit (.bool true)], args := [d1, d2, d3] }
  | _ => none }
def readyKeepsRow : OpenClaim := { program := "ytkanpbjjabdalaa", sum := "18c293e7ef67b84b2ab6f54ae10f7e6fe9ce1bb2f0c728ab4be437b796bf3922", func := "shuttlecock/shuttlecocklaw13.ReadyKeeps", spec := "readyKeeps", unfollowed := true, recurses := true, apart := false }
def ReadyKeepsSaid : Prop := readyKeepsRow.holds Try.pinned (OpenSpec.ofChange readyKeepsSpec)

/-- ITS FALSE NEIGHBOUR: 'it returns false'. Refute it at one input. -/
def readyKeepsWrong : ChangeSpec := { name := "readyKeeps", fn := fun _ => fun
  | [d1, d2, d3] => { results := [.lit (.bool false)], args := [d1, d2, d3] }
  | _ => none }
def ReadyKeepsWrongFalsely : Prop := readyKeepsRow.holds Try.pinned (OpenSpec.ofChange readyKeepsWrong)

/-- 'shuttlecocklaw13.ReadyOrder': WHATEVER THE INPUT: true; the input reads as it did. -/
def readyOrderSpec : ChangeSpec := { name := "readyOrder", fn := fun _ => fun
  | [d1, d2, d3] => { results := [.lit (.bool true)], args := [d1, d2, d3] }
  | _ => none }
def readyOrderRow : OpenClaim := { program := "ytkanpbjjabdalaa", sum := "18c293e7ef67b84b2ab6f54ae10f7e6fe9ce1bb2f0c728ab4be437b796bf3922", func := "shuttlecock/shuttlecocklaw13.ReadyOrder", spec := "readyOrder", unfollowed := true, recurses := true, apart := false }
def ReadyOrderSaid : Prop := readyOrderRow.holds Try.pinned (OpenSpec.ofChange readyOrderSpec)

/-- ITS FALSE NEIGHBOUR: 'it returns false'. Refute it at one input. -/
def readyOrderWrong : ChangeSpec := { name := "readyOrder", fn := fun _ => fun
  | [d1, d2, d3] => { results := [.lit (.bool false)], args := [d1, d2, d3] }
  | _ => none }
def ReadyOrderWrongFalsely : Prop := readyOrderRow.holds Try.pinned (OpenSpec.ofChange readyOrderWrong)

/-- 'shuttlecocklaw13.ReadySpill': WHATEVER THE INPUT: true; the input reads as it did. -/
def readySpillSpec : ChangeSpec := { name := "readySpill", fn := fun _ => fun
  | [d] => { results := [.lit (.bool true)], args := [d] }
  | _ => none }
def readySpillRow : OpenClaim := { program := "ytkanpbjjabdalaa", sum := "18c293e7ef67b84b2ab6f54ae10f7e6fe9ce1bb2f0c728ab4be437b796bf3922", func := "shuttlecock/shuttlecocklaw13.ReadySpill", spec := "readySpill", unfollowed := true, recurses := true, apart := false }
def ReadySpillSaid : Prop := readySpillRow.holds Try.pinned (OpenSpec.ofChange readySpillSpec)

/-- ITS FALSE NEIGHBOUR: 'it returns false'. Refute it at one input. -/
def readySpillWrong : ChangeSpec := { name := "readySpill", fn := fun _ => fun
  | [d] => { results := [.lit (.bool false)], args := [d] }
  | _ => none }
def ReadySpillWrongFalsely : Prop := readySpillRow.holds Try.pinned (OpenSpec.ofChange readySpillWrong)

/-- 'shuttlecocklaw13.ReadyDrains': WHATEVER THE INPUT: true; the input reads as it did. -/
def readyDrainsSpec : ChangeSpec := { name := "readyDrains", fn := fun _ => fun
  | [d1, d2] => { results := [.lit (.bool true)], args := [d1, d2] }
  | _ => none }
def readyDrainsRow : OpenClaim := { program := "ytkanpbjjabdalaa", sum := "18c293e7ef67b84b2ab6f54ae10f7e6fe9ce1bb2f0c728ab4be437b796bf3922", func := "shuttlecock/shuttlecocklaw13.ReadyDrains", spec := "readyDrains", unfollowed := true, recurses := true, apart := false }
def ReadyDrainsSaid : Prop := readyDrainsRow.holds Try.pinned (OpenSpec.ofChange readyDrainsSpec)

/-- ITS FALSE NEIGHBOUR: 'it returns false'. Refute it at one input. -/
def readyDrainsWrong : ChangeSpec := { name := "readyDrains", fn := fun _ => fun
  | [d1, d2] => { results := [.lit (.bool false)], args := [d1, d2] }
  | _ => none }
def ReadyDrainsWrongFalsely : Prop := readyDrainsRow.holds Try.pinned (OpenSpec.ofChange readyDrainsWrong)

/-- 'shuttlecocklaw14.FindRuns': WHATEVER THE INPUT: true; the input reads as it did. -/
def findRunsSpec : ChangeSpec := { name := "findRuns", fn := fun _ => fun
  | [d1, d2, d3] => { results := [.lit (.bool true)], args := [d1, d2, d3] }
  | _ => none }
def findRunsRow : OpenClaim := { program := "ytkanpbjjabdalaa", sum := "18c293e7ef67b84b2ab6f54ae10f7e6fe9ce1bb2f0c728ab4be437b796bf3922", func := "shuttlecock/shuttlecocklaw14.FindRuns", spec := "findRuns", unfollowed := true, recurses := true, apart := false }
def FindRunsSaid : Prop := findRunsRow.holds Try.pinned (OpenSpec.ofChange findRunsSpec)

/-- ITS FALSE NEIGHBOUR: 'it returns false'. Refute it at one input. -/
def findRunsWrong : ChangeSpec := { name := "findRuns", fn := fun _ => fun
  | [d1, d2, d3] => { results := [.lit (.bool false)], args := [d1, d2, d3] }
  | _ => none }
def FindRunsWrongFalsely : Prop := findRunsRow.holds Try.pinned (OpenSpec.ofChange findRunsWrong)

/-- 'shuttlecocklaw14.FindSteals': WHATEVER THE INPUT: true; the input reads as it did. -/
def findStealsSpec : ChangeSpec := { name := "findSteals", fn := fun _ => fun
  | [d1, d2, d3] => { results := [.lit (.bool true)], args := [d1, d2, d3] }
  | _ => none }
def findStealsRow : OpenClaim := { program := "ytkanpbjjabdalaa", sum := "18c293e7ef67b84b2ab6f54ae10f7e6fe9ce1bb2f0c728ab4be437b796bf3922", func := "shuttlecock/shuttlecocklaw14.FindSteals", spec := "findSteals", unfollowed := true, recurses := true, apart := false }
def FindStealsSaid : Prop := findStealsRow.holds Try.pinned (OpenSpec.ofChange findStealsSpec)

/-- ITS FALSE NEIGHBOUR: 'it returns false'. Refute it at one input. -/
def findStealsWrong : ChangeSpec := { name := "findSteals", fn := fun _ => fun
  | [d1, d2, d3] => { results := [.lit (.bool false)], args := [d1, d2, d3] }
  | _ => none }
def FindStealsWrongFalsely : Prop := findStealsRow.holds Try.pinned (OpenSpec.ofChange findStealsWrong)

/-- 'shuttlecocklaw14.FindOrder': WHATEVER THE INPUT: true; the input reads as it did. -/
def findOrderSpec : ChangeSpec := { name := "findOrder", fn := fun _ => fun
  | [d1, d2, d3] => { results := [.lit (.bool true)], args := [d1, d2, d3] }
  | _ => none }
def findOrderRow : OpenClaim := { program := "ytkanpbjjabdalaa", sum := "18c293e7ef67b84b2ab6f54ae10f7e6fe9ce1bb2f0c728ab4be437b796bf3922", func := "shuttlecock/shuttlecocklaw14.FindOrder", spec := "findOrder", unfollowed := true, recurses := true, apart := false }
def FindOrderSaid : Prop := findOrderRow.holds Try.pinned (OpenSpec.ofChange findOrderSpec)

/-- ITS FALSE NEIGHBOUR: 'it returns false'. Refute it at one input. -/
def findOrderWrong : ChangeSpec := { name := "findOrder", fn := fun _ => fun
  | [d1, d2, d3] => { results := [.lit (.bool false)], args := [d1, d2, d3] }
  | _ => none }
def FindOrderWrongFalsely : Prop := findOrderRow.holds Try.pinned (OpenSpec.ofChange findOrderWrong)

/-- 'shuttlecocklaw14.FindStarts': WHATEVER THE INPUT: true; the input reads as it did. -/
def findStartsSpec : ChangeSpec := { name := "findStarts", fn := fun _ => fun
  | [d1, d2, d3] => { results := [.lit (.bool true)], args := [d1, d2, d3] }
  | _ => none }
def findStartsRow : OpenClaim := { program := "ytkanpbjjabdalaa", sum := "18c293e7ef67b84b2ab6f54ae10f7e6fe9ce1bb2f0c728ab4be437b796bf3922", func := "shuttlecock/shuttlecocklaw14.FindStarts", spec := "findStarts", unfollowed := true, recurses := true, apart := false }
def FindStartsSaid : Prop := findStartsRow.holds Try.pinned (OpenSpec.ofChange findStartsSpec)

/-- ITS FALSE NEIGHBOUR: 'it returns false'. Refute it at one input. -/
def findStartsWrong : ChangeSpec := { name := "findStarts", fn := fun _ => fun
  | [d1, d2, d3] => { results := [.lit (.bool false)], args := [d1, d2, d3] }
  | _ => none }
def FindStartsWrongFalsely : Prop := findStartsRow.holds Try.pinned (OpenSpec.ofChange findStartsWrong)

/- THE SECOND FORM. 'bulk': how many values and letters a reading holds, each counted each time it is reached (what is shared counts as often as it is met; a slice's spare places count too). A statement '..UptoSaid' is the law's where the arguments, and the package variables that the reading takes, are together of bulk at most 1048576: NARROWER than '..Said'. Prove '..Said' where nothing that the law and all that it calls make is longer than what came in: it says more and counts as full. Else prove '..UptoSaid'. A law counts once. -/
mutual
def uptoBulk {H : Type} : DataW H → Nat
  | .lit (.string bytes) => bytes.length + 1
  | .lit _ => 1
  | .nil => 1
  | .ptr d => uptoBulk d + 1
  | .slice elems spare => uptoBulkAll elems + uptoBulkAll spare + 1
  | .agg parts => uptoBulkAll parts + 1
  | .iface _ d => uptoBulk d + 1
  | .map entries => uptoBulkEntries entries + 1
  | .held _ => 1
def uptoBulkAll {H : Type} : List (DataW H) → Nat
  | [] => 0
  | d :: r => uptoBulk d + uptoBulkAll r
def uptoBulkEntries {H : Type} : List (Lit × DataW H) → Nat
  | [] => 0
  | x :: r => uptoBulkEntry x + uptoBulkEntries r
def uptoBulkEntry {H : Type} : Lit × DataW H → Nat
  | (.string bytes, d) => bytes.length + uptoBulk d + 1
  | (_, d) => uptoBulk d + 1
 end
def uptoSmall : (H : Type) → List (DataW H) → Bool := fun _ ds => decide (uptoBulkAll ds ≤ 1048576)
def OpenSpec.upto (s : _root_.Go.ChangeSpec) : _root_.Go.OpenSpec := { _root_.Go.OpenSpec.ofChange s with cond := some uptoSmall }

/-- 'shuttlecocklaw13.ReadyTells', WHERE WHAT IT READS IS OF BULK AT MOST 1048576: true; the input reads as it did. -/
def readyTellsUptoRow : OpenClaim := { program := "ytkanpbjjabdalaa", sum := "18c293e7ef67b84b2ab6f54ae10f7e6fe9ce1bb2f0c728ab4be437b796bf3922", func := "shuttlecock/shuttlecocklaw13.ReadyTells", spec := "readyTells", unfollowed := true, recurses := true, apart := false, narrowed := true }
def ReadyTellsUptoSaid : Prop := readyTellsUptoRow.holds Try.pinned (OpenSpec.upto readyTellsSpec)

/-- 'shuttlecocklaw13.ReadyKeeps', WHERE WHAT IT READS IS OF BULK AT MOST 1048576: true; the input reads as it did. -/
def readyKeepsUptoRow : OpenClaim := { program := "ytkanpbjjabdalaa", sum := "18c293e7ef67b84b2ab6f54ae10f7e6fe9ce1bb2f0c728ab4be437b796bf3922", func := "shuttlecock/shuttlecocklaw13.ReadyKeeps", spec := "readyKeeps", unfollowed := true, recurses := true, apart := false, narrowed := true }
def ReadyKeepsUptoSaid : Prop := readyKeepsUptoRow.holds Try.pinned (OpenSpec.upto readyKeepsSpec)

/-- 'shuttlecocklaw13.ReadyOrder', WHERE WHAT IT READS IS OF BULK AT MOST 1048576: true; the input reads as it did. -/
def readyOrderUptoRow : OpenClaim := { program := "ytkanpbjjabdalaa", sum := "18c293e7ef67b84b2ab6f54ae10f7e6fe9ce1bb2f0c728ab4be437b796bf3922", func := "shuttlecock/shuttlecocklaw13.ReadyOrder", spec := "readyOrder", unfollowed := true, recurses := true, apart := false, narrowed := true }
def ReadyOrderUptoSaid : Prop := readyOrderUptoRow.holds Try.pinned (OpenSpec.upto readyOrderSpec)

/-- 'shuttlecocklaw13.ReadySpill', WHERE WHAT IT READS IS OF BULK AT MOST 1048576: true; the input reads as it did. -/
def readySpillUptoRow : OpenClaim := { program := "ytkanpbjjabdalaa", sum := "18c293e7ef67b84b2ab6f54ae10f7e6fe9ce1bb2f0c728ab4be437b796bf3922", func := "shuttlecock/shuttlecocklaw13.ReadySpill", spec := "readySpill", unfollowed := true, recurses := true, apart := false, narrowed := true }
def ReadySpillUptoSaid : Prop := readySpillUptoRow.holds Try.pinned (OpenSpec.upto readySpillSpec)

/-- 'shuttlecocklaw13.ReadyDrains', WHERE WHAT IT READS IS OF BULK AT MOST 1048576: true; the input reads as it did. -/
def readyDrainsUptoRow : OpenClaim := { program := "ytkanpbjjabdalaa", sum := "18c293e7ef67b84b2ab6f54ae10f7e6fe9ce1bb2f0c728ab4be437b796bf3922", func := "shuttlecock/shuttlecocklaw13.ReadyDrains", spec := "readyDrains", unfollowed := true, recurses := true, apart := false, narrowed := true }
def ReadyDrainsUptoSaid : Prop := readyDrainsUptoRow.holds Try.pinned (OpenSpec.upto readyDrainsSpec)

/-- 'shuttlecocklaw14.FindRuns', WHERE WHAT IT READS IS OF BULK AT MOST 1048576: true; the input reads as it did. -/
def findRunsUptoRow : OpenClaim := { program := "ytkanpbjjabdalaa", sum := "18c293e7ef67b84b2ab6f54ae10f7e6fe9ce1bb2f0c728ab4be437b796bf3922", func := "shuttlecock/shuttlecocklaw14.FindRuns", spec := "findRuns", unfollowed := true, recurses := true, apart := false, narrowed := true }
def FindRunsUptoSaid : Prop := findRunsUptoRow.holds Try.pinned (OpenSpec.upto findRunsSpec)

/-- 'shuttlecocklaw14.FindSteals', WHERE WHAT IT READS IS OF BULK AT MOST 1048576: true; the input reads as it did. -/
def findStealsUptoRow : OpenClaim := { program := "ytkanpbjjabdalaa", sum := "18c293e7ef67b84b2ab6f54ae10f7e6fe9ce1bb2f0c728ab4be437b796bf3922", func := "shuttlecock/shuttlecocklaw14.FindSteals", spec := "findSteals", unfollowed := true, recurses := true, apart := false, narrowed := true }
def FindStealsUptoSaid : Prop := findStealsUptoRow.holds Try.pinned (OpenSpec.upto findStealsSpec)

/-- 'shuttlecocklaw14.FindOrder', WHERE WHAT IT READS IS OF BULK AT MOST 1048576: true; the input reads as it did. -/
def findOrderUptoRow : OpenClaim := { program := "ytkanpbjjabdalaa", sum := "18c293e7ef67b84b2ab6f54ae10f7e6fe9ce1bb2f0c728ab4be437b796bf3922", func := "shuttlecock/shuttlecocklaw14.FindOrder", spec := "findOrder", unfollowed := true, recurses := true, apart := false, narrowed := true }
def FindOrderUptoSaid : Prop := findOrderUptoRow.holds Try.pinned (OpenSpec.upto findOrderSpec)

/-- 'shuttlecocklaw14.FindStarts', WHERE WHAT IT READS IS OF BULK AT MOST 1048576: true; the input reads as it did. -/
def findStartsUptoRow : OpenClaim := { program := "ytkanpbjjabdalaa", sum := "18c293e7ef67b84b2ab6f54ae10f7e6fe9ce1bb2f0c728ab4be437b796bf3922", func := "shuttlecock/shuttlecocklaw14.FindStarts", spec := "findStarts", unfollowed := true, recurses := true, apart := false, narrowed := true }
def FindStartsUptoSaid : Prop := findStartsUptoRow.holds Try.pinned (OpenSpec.upto findStartsSpec)

end Rows
end Go.Proofs.Ytkanpbjjabdalaa
