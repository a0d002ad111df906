/-
  No cell of these rows narrows 'for every input' (looked for: loops, veiled, ifaces, maps, wideKeys, modest, calm, conditions, laid).
  DERIVED. THE GIVEN ROWS OF THIS SEAT. 5 by the template 'for every input the law returns true; each argument reads behind the call as it read before'; 0 by the template 'total and deterministic' (their statements: YteiafekbmkbldaaTotals.lean).
  GIVEN WITH THE SEED: the statements are not yours to turn. If you find one false, say at which input.
  Laid BY PROGRAM, IN A SANDBOX (cutbox-rows.mjs): the forced cells as the released guide's own fill.sh prints them over the translation b55e4dfeb2043a3e… (all of the seat's roots in one cut). By AI agents, Wed Nov 11 2026. No macro, syntax, notation, axiom, sorry.
-/
import Derived.Test.YteiafekbmkbldaaChecked
import GoSem.Claim
import GoSem.ClaimJoined
import GoSem.ClaimMapViews
import Derived.JoinedTies
import Derived.KernelRfl
namespace Go.Proofs.Yteiafekbmkbldaa
/- THE CELL 'sum', in the pinned program and in every row, IS THE sha256 OF THE DUMP (.gsa) THAT YteiafekbmkbldaaProg.lean LOADS. Nothing in Lean hashes anything: it is a label: what it is worth is what the hold of that sum in a sandbox is worth. -/
noncomputable def Try.pinned : Pinned := { name := "yteiafekbmkbldaa", sum := "b55e4dfeb2043a3e97657ca3f58e75df34312a2813f45fae02819d8896406e7d", checked := Try.checked }
namespace Rows
def none {H : Type} : Left H := { results := [], args := [] }

/-- 'shuttlecocklaw12.StateTells': WHATEVER THE INPUT: true; the input reads as it did. -/
def stateTellsSpec : ChangeSpec := { name := "stateTells", fn := fun _ => fun
  | [d1, d2] => { results := [.lit (.bool true)], args := [d1, d2] }
  | _ => none }
def stateTellsRow : OpenClaim := { program := "yteiafekbmkbldaa", sum := "b55e4dfeb2043a3e97657ca3f58e75df34312a2813f45fae02819d8896406e7d", func := "shuttlecock/shuttlecocklaw12.StateTells", spec := "stateTells", unfollowed := true, recurses := true, apart := false }
def StateTellsSaid : Prop := stateTellsRow.holds Try.pinned (OpenSpec.ofChange stateTellsSpec)

/-- ITS FALSE NEIGHBOUR: 'it returns false'. Refute it at one input. -/
def stateTellsWrong : ChangeSpec := { name := "stateTells", fn := fun _ => fun
  | [d1, d2] => { results := [.lit (.bool false)], args := [d1, d2] }
  | _ => none }
def StateTellsWrongFalsely : Prop := stateTellsRow.holds Try.pinned (OpenSpec.ofChange stateTellsWrong)

/-- 'shuttlecocklaw12.StatePlaces': WHATEVER THE INPUT: true; the input reads as it did. -/
def statePlacesSpec : ChangeSpec := { name := "statePlaces", fn := fun _ => fun
  | [d1, d2, d3] => { results := [.lit (.bool true)], args := [d1, d2, d3] }
  | _ => none }
def statePlacesRow : OpenClaim := { program := "yteiafekbmkbldaa", sum := "b55e4dfeb2043a3e97657ca3f58e75df34312a2813f45fae02819d8896406e7d", func := "shuttlecock/shuttlecocklaw12.StatePlaces", spec := "statePlaces", unfollowed := true, recurses := true, apart := false }
def StatePlacesSaid : Prop := statePlacesRow.holds Try.pinned (OpenSpec.ofChange statePlacesSpec)

/-- ITS FALSE NEIGHBOUR: 'it returns false'. Refute it at one input. -/
def statePlacesWrong : ChangeSpec := { name := "statePlaces", fn := fun _ => fun
  | [d1, d2, d3] => { results := [.lit (.bool false)], args := [d1, d2, d3] }
  | _ => none }
def StatePlacesWrongFalsely : Prop := statePlacesRow.holds Try.pinned (OpenSpec.ofChange statePlacesWrong)

/-- 'shuttlecocklaw12.StateNew': WHATEVER THE INPUT: true; the input reads as it did. -/
def stateNewSpec : ChangeSpec := { name := "stateNew", fn := fun _ => fun
  | [d1, d2] => { results := [.lit (.bool true)], args := [d1, d2] }
  | _ => none }
def stateNewRow : OpenClaim := { program := "yteiafekbmkbldaa", sum := "b55e4dfeb2043a3e97657ca3f58e75df34312a2813f45fae02819d8896406e7d", func := "shuttlecock/shuttlecocklaw12.StateNew", spec := "stateNew", unfollowed := true, recurses := true, apart := false }
def StateNewSaid : Prop := stateNewRow.holds Try.pinned (OpenSpec.ofChange stateNewSpec)

/-- ITS FALSE NEIGHBOUR: 'it returns false'. Refute it at one input. -/
def stateNewWrong : ChangeSpec := { name := "stateNew", fn := fun _ => fun
  | [d1, d2] => { results := [.lit (.bool false)], args := [d1, d2] }
  | _ => none }
def StateNewWrongFalsely : Prop := stateNewRow.holds Try.pinned (OpenSpec.ofChange stateNewWrong)

/-- 'shuttlecocklaw12.StateTurned': WHATEVER THE INPUT: true; the input reads as it did. -/
def stateTurnedSpec : ChangeSpec := { name := "stateTurned", fn := fun _ => fun
  | [d1, d2] => { results := [.lit (.bool true)], args := [d1, d2] }
  | _ => none }
def stateTurnedRow : OpenClaim := { program := "yteiafekbmkbldaa", sum := "b55e4dfeb2043a3e97657ca3f58e75df34312a2813f45fae02819d8896406e7d", func := "shuttlecock/shuttlecocklaw12.StateTurned", spec := "stateTurned", unfollowed := true, recurses := true, apart := false }
def StateTurnedSaid : Prop := stateTurnedRow.holds Try.pinned (OpenSpec.ofChange stateTurnedSpec)

/-- ITS FALSE NEIGHBOUR: 'it returns false'. Refute it at one input. -/
def stateTurnedWrong : ChangeSpec := { name := "stateTurned", fn := fun _ => fun
  | [d1, d2] => { results := [.lit (.bool false)], args := [d1, d2] }
  | _ => none }
def StateTurnedWrongFalsely : Prop := stateTurnedRow.holds Try.pinned (OpenSpec.ofChange stateTurnedWrong)

/-- 'shuttlecocklaw12.StateQueues': WHATEVER THE INPUT: true; the input reads as it did. -/
def stateQueuesSpec : ChangeSpec := { name := "stateQueues", fn := fun _ => fun
  | [d] => { results := [.lit (.bool true)], args := [d] }
  | _ => none }
def stateQueuesRow : OpenClaim := { program := "yteiafekbmkbldaa", sum := "b55e4dfeb2043a3e97657ca3f58e75df34312a2813f45fae02819d8896406e7d", func := "shuttlecock/shuttlecocklaw12.StateQueues", spec := "stateQueues", unfollowed := true, recurses := true, apart := false }
def StateQueuesSaid : Prop := stateQueuesRow.holds Try.pinned (OpenSpec.ofChange stateQueuesSpec)

/-- ITS FALSE NEIGHBOUR: 'it returns false'. Refute it at one input. -/
def stateQueuesWrong : ChangeSpec := { name := "stateQueues", fn := fun _ => fun
  | [d] => { results := [.lit (.bool false)], args := [d] }
  | _ => none }
def StateQueuesWrongFalsely : Prop := stateQueuesRow.holds Try.pinned (OpenSpec.ofChange stateQueuesWrong)

/- THE SECOND FORM. 'bulk': how many values and letters a reading holds, each counted each time it is reached (what is shared counts as often as it is met; a slice's spare places count too). A statement '..UptoSaid' is the law's where the arguments, and the package variables that the reading takes, are together of bulk at most 1048576: NARROWER than '..Said'. Prove '..Said' where nothing that the law and all that it calls make is longer than what came in: it says more and counts as full. Else prove '..UptoSaid'. A law counts once. -/
mutual
def uptoBulk {H : Type} : DataW H → Nat
  | .lit (.string bytes) => bytes.length + 1
  | .lit _ => 1
  | .nil => 1
  | .ptr d => uptoBulk d + 1
  | .slice elems spare => uptoBulkAll elems + uptoBulkAll spare + 1
  | .agg parts => uptoBulkAll parts + 1
  | .iface _ d => uptoBulk d + 1
  | .map entries => uptoBulkEntries entries + 1
  | .held _ => 1
def uptoBulkAll {H : Type} : List (DataW H) → Nat
  | [] => 0
  | d :: r => uptoBulk d + uptoBulkAll r
def uptoBulkEntries {H : Type} : List (Lit × DataW H) → Nat
  | [] => 0
  | x :: r => uptoBulkEntry x + uptoBulkEntries r
def uptoBulkEntry {H : Type} : Lit × DataW H → Nat
  | (.string bytes, d) => bytes.length + uptoBulk d + 1
  | (_, d) => uptoBulk d + 1
 end
def uptoSmall : (H : Type) → List (DataW H) → Bool := fun _ ds => decide (uptoBulkAll ds ≤ 1048576)
def OpenSpec.upto (s : _root_.Go.ChangeSpec) : _root_.Go.OpenSpec := { _root_.Go.OpenSpec.ofChange s with cond := some uptoSmall }

/-- 'shuttlecocklaw12.StateTells', WHERE WHAT IT READS IS OF BULK AT MOST 1048576: true; the input reads as it did. -/
def stateTellsUptoRow : OpenClaim := { program := "yteiafekbmkbldaa", sum := "b55e4dfeb2043a3e97657ca3f58e75df34312a2813f45fae02819d8896406e7d", func := "shuttlecock/shuttlecocklaw12.StateTells", spec := "stateTells", unfollowed := true, recurses := true, apart := false, narrowed := true }
def StateTellsUptoSaid : Prop := stateTellsUptoRow.holds Try.pinned (OpenSpec.upto stateTellsSpec)

/-- 'shuttlecocklaw12.StatePlaces', WHERE WHAT IT READS IS OF BULK AT MOST 1048576: true; the input reads as it did. -/
def statePlacesUptoRow : OpenClaim := { program := "yteiafekbmkbldaa", sum := "b55e4dfeb2043a3e97657ca3f58e75df34312a2813f45fae02819d8896406e7d", func := "shuttlecock/shuttlecocklaw12.StatePlaces", spec := "statePlaces", unfollowed := true, recurses := true, apart := false, narrowed := true }
def StatePlacesUptoSaid : Prop := statePlacesUptoRow.holds Try.pinned (OpenSpec.upto statePlacesSpec)

/-- 'shuttlecocklaw12.StateNew', WHERE WHAT IT READS IS OF BULK AT MOST 1048576: true; the input reads as it did. -/
def stateNewUptoRow : OpenClaim := { program := "yteiafekbmkbldaa", sum := "b55e4dfeb2043a3e97657ca3f58e75df34312a2813f45fae02819d8896406e7d", func := "shuttlecock/shuttlecocklaw12.StateNew", spec := "stateNew", unfollowed := true, recurses := true, apart := false, narrowed := true }
def StateNewUptoSaid : Prop := stateNewUptoRow.holds Try.pinned (OpenSpec.upto stateNewSpec)

/-- 'shuttlecocklaw12.StateTurned', WHERE WHAT IT READS IS OF BULK AT MOST 1048576: true; the input reads as it did. -/
def stateTurnedUptoRow : OpenClaim := { program := "yteiafekbmkbldaa", sum := "b55e4dfeb2043a3e97657ca3f58e75df34312a2813f45fae02819d8896406e7d", func := "shuttlecock/shuttlecocklaw12.StateTurned", spec := "stateTurned", unfollowed := true, recurses := true, apart := false, narrowed := true }
def StateTurnedUptoSaid : Prop := stateTurnedUptoRow.holds Try.pinned (OpenSpec.upto stateTurnedSpec)

/-- 'shuttlecocklaw12.StateQueues', WHERE WHAT IT READS IS OF BULK AT MOST 1048576: true; the input reads as it did. -/
def stateQueuesUptoRow : OpenClaim := { program := "yteiafekbmkbldaa", sum := "b55e4dfeb2043a3e97657ca3f58e75df34312a2813f45fae02819d8896406e7d", func := "shuttlecock/shuttlecocklaw12.StateQueues", spec := "stateQueues", unfollowed := true, recurses := true, apart := false, narrowed := true }
def StateQueuesUptoSaid : Prop := stateQueuesUptoRow.holds Try.pinned (OpenSpec.upto stateQueuesSpec)

end Rows
end Go.Proofs.Yteiafekbmkbldaa
