/-
  No cell of these rows narrows 'for every input' (looked for: loops, veiled, ifaces, maps, wideKeys, modest, calm, conditions, laid).
  DERIVED. THE GIVEN ROWS OF THIS SEAT. 6 by the template 'for every input the law returns true; each argument reads behind the call as it read before'; 0 by the template 'total and deterministic' (their statements: YtjeinbfnbcempaaTotals.lean).
  GIVEN WITH THE SEED: the statements are not yours to turn. If you find one false, say at which input.
  Laid BY PROGRAM, IN A SANDBOX (cutbox-rows.mjs): the forced cells as the released guide's own fill.sh prints them over the translation b5ed7ad6c491fa1d… (all of the seat's roots in one cut). By AI agents, Wed Nov 11 2026. No macro, syntax, notation, axiom, sorry.
-/
import Derived.Test.YtjeinbfnbcempaaChecked
import GoSem.Claim
import GoSem.ClaimJoined
import GoSem.ClaimMapViews
import Derived.JoinedTies
import Derived.KernelRfl
namespace Go.Proofs.Ytjeinbfnbcempaa
/- THE CELL 'sum', in the pinned program and in every row, IS THE sha256 OF THE DUMP (.gsa) THAT YtjeinbfnbcempaaProg.lean LOADS. Nothing in Lean hashes anything: it is a label: what it is worth is what the hold of that sum in a sandbox is worth. -/
noncomputable def Try.pinned : Pinned := { name := "ytjeinbfnbcempaa", sum := "b5ed7ad6c491fa1d1bbc8379fb256ac4a10d8ee916520798036b6fd5c46e8a4f", checked := Try.checked }
namespace Rows
def none {H : Type} : Left H := { results := [], args := [] }

/-- 'baggagelaw34.ForwardRoutes': WHATEVER THE INPUT: true; the input reads as it did. -/
def forwardRoutesSpec : ChangeSpec := { name := "forwardRoutes", fn := fun _ => fun
  | [d1, d2, d3, d4, d5, d6] => { results := [.lit (.bool true)], args := [d1, d2, d3, d4, d5, d6] }
  | _ => none }
def forwardRoutesRow : OpenClaim := { program := "ytjeinbfnbcempaa", sum := "b5ed7ad6c491fa1d1bbc8379fb256ac4a10d8ee916520798036b6fd5c46e8a4f", func := "baggage/baggagelaw34.ForwardRoutes", spec := "forwardRoutes", unfollowed := true, recurses := true, apart := false }
def ForwardRoutesSaid : Prop := forwardRoutesRow.holds Try.pinned (OpenSpec.ofChange forwardRoutesSpec)

/-- ITS FALSE NEIGHBOUR: 'it returns false'. Refute it at one input. -/
def forwardRoutesWrong : ChangeSpec := { name := "forwardRoutes", fn := fun _ => fun
  | [d1, d2, d3, d4, d5, d6] => { results := [.lit (.bool false)], args := [d1, d2, d3, d4, d5, d6] }
  | _ => none }
def ForwardRoutesWrongFalsely : Prop := forwardRoutesRow.holds Try.pinned (OpenSpec.ofChange forwardRoutesWrong)

/-- 'baggagelaw34.ForwardEarliest': WHATEVER THE INPUT: true; the input reads as it did. -/
def forwardEarliestSpec : ChangeSpec := { name := "forwardEarliest", fn := fun _ => fun
  | [d1, d2] => { results := [.lit (.bool true)], args := [d1, d2] }
  | _ => none }
def forwardEarliestRow : OpenClaim := { program := "ytjeinbfnbcempaa", sum := "b5ed7ad6c491fa1d1bbc8379fb256ac4a10d8ee916520798036b6fd5c46e8a4f", func := "baggage/baggagelaw34.ForwardEarliest", spec := "forwardEarliest", unfollowed := true, recurses := true, apart := false }
def ForwardEarliestSaid : Prop := forwardEarliestRow.holds Try.pinned (OpenSpec.ofChange forwardEarliestSpec)

/-- ITS FALSE NEIGHBOUR: 'it returns false'. Refute it at one input. -/
def forwardEarliestWrong : ChangeSpec := { name := "forwardEarliest", fn := fun _ => fun
  | [d1, d2] => { results := [.lit (.bool false)], args := [d1, d2] }
  | _ => none }
def ForwardEarliestWrongFalsely : Prop := forwardEarliestRow.holds Try.pinned (OpenSpec.ofChange forwardEarliestWrong)

/-- 'baggagelaw34.ForwardMonotone': WHATEVER THE INPUT: true; the input reads as it did. -/
def forwardMonotoneSpec : ChangeSpec := { name := "forwardMonotone", fn := fun _ => fun
  | [d] => { results := [.lit (.bool true)], args := [d] }
  | _ => none }
def forwardMonotoneRow : OpenClaim := { program := "ytjeinbfnbcempaa", sum := "b5ed7ad6c491fa1d1bbc8379fb256ac4a10d8ee916520798036b6fd5c46e8a4f", func := "baggage/baggagelaw34.ForwardMonotone", spec := "forwardMonotone", unfollowed := true, recurses := true, apart := false }
def ForwardMonotoneSaid : Prop := forwardMonotoneRow.holds Try.pinned (OpenSpec.ofChange forwardMonotoneSpec)

/-- ITS FALSE NEIGHBOUR: 'it returns false'. Refute it at one input. -/
def forwardMonotoneWrong : ChangeSpec := { name := "forwardMonotone", fn := fun _ => fun
  | [d] => { results := [.lit (.bool false)], args := [d] }
  | _ => none }
def ForwardMonotoneWrongFalsely : Prop := forwardMonotoneRow.holds Try.pinned (OpenSpec.ofChange forwardMonotoneWrong)

/-- 'baggagelaw34.ForwardChecks': WHATEVER THE INPUT: true; the input reads as it did. -/
def forwardChecksSpec : ChangeSpec := { name := "forwardChecks", fn := fun _ => fun
  | [d1, d2, d3, d4, d5, d6, d7] => { results := [.lit (.bool true)], args := [d1, d2, d3, d4, d5, d6, d7] }
  | _ => none }
def forwardChecksRow : OpenClaim := { program := "ytjeinbfnbcempaa", sum := "b5ed7ad6c491fa1d1bbc8379fb256ac4a10d8ee916520798036b6fd5c46e8a4f", func := "baggage/baggagelaw34.ForwardChecks", spec := "forwardChecks", unfollowed := true, recurses := true, apart := false }
def ForwardChecksSaid : Prop := forwardChecksRow.holds Try.pinned (OpenSpec.ofChange forwardChecksSpec)

/-- ITS FALSE NEIGHBOUR: 'it returns false'. Refute it at one input. -/
def forwardChecksWrong : ChangeSpec := { name := "forwardChecks", fn := fun _ => fun
  | [d1, d2, d3, d4, d5, d6, d7] => { results := [.lit (.bool false)], args := [d1, d2, d3, d4, d5, d6, d7] }
  | _ => none }
def ForwardChecksWrongFalsely : Prop := forwardChecksRow.holds Try.pinned (OpenSpec.ofChange forwardChecksWrong)

/-- 'baggagelaw34.ForwardBooks': WHATEVER THE INPUT: true; the input reads as it did. -/
def forwardBooksSpec : ChangeSpec := { name := "forwardBooks", fn := fun _ => fun
  | [d1, d2, d3] => { results := [.lit (.bool true)], args := [d1, d2, d3] }
  | _ => none }
def forwardBooksRow : OpenClaim := { program := "ytjeinbfnbcempaa", sum := "b5ed7ad6c491fa1d1bbc8379fb256ac4a10d8ee916520798036b6fd5c46e8a4f", func := "baggage/baggagelaw34.ForwardBooks", spec := "forwardBooks", unfollowed := true, recurses := true, apart := false }
def ForwardBooksSaid : Prop := forwardBooksRow.holds Try.pinned (OpenSpec.ofChange forwardBooksSpec)

/-- ITS FALSE NEIGHBOUR: 'it returns false'. Refute it at one input. -/
def forwardBooksWrong : ChangeSpec := { name := "forwardBooks", fn := fun _ => fun
  | [d1, d2, d3] => { results := [.lit (.bool false)], args := [d1, d2, d3] }
  | _ => none }
def ForwardBooksWrongFalsely : Prop := forwardBooksRow.holds Try.pinned (OpenSpec.ofChange forwardBooksWrong)

/-- 'baggagelaw34.ForwardQueue': WHATEVER THE INPUT: true; the input reads as it did. -/
def forwardQueueSpec : ChangeSpec := { name := "forwardQueue", fn := fun _ => fun
  | [d] => { results := [.lit (.bool true)], args := [d] }
  | _ => none }
def forwardQueueRow : OpenClaim := { program := "ytjeinbfnbcempaa", sum := "b5ed7ad6c491fa1d1bbc8379fb256ac4a10d8ee916520798036b6fd5c46e8a4f", func := "baggage/baggagelaw34.ForwardQueue", spec := "forwardQueue", unfollowed := true, recurses := true, apart := false }
def ForwardQueueSaid : Prop := forwardQueueRow.holds Try.pinned (OpenSpec.ofChange forwardQueueSpec)

/-- ITS FALSE NEIGHBOUR: 'it returns false'. Refute it at one input. -/
def forwardQueueWrong : ChangeSpec := { name := "forwardQueue", fn := fun _ => fun
  | [d] => { results := [.lit (.bool false)], args := [d] }
  | _ => none }
def ForwardQueueWrongFalsely : Prop := forwardQueueRow.holds Try.pinned (OpenSpec.ofChange forwardQueueWrong)

/- THE SECOND FORM. 'bulk': how many values and letters a reading holds, each counted each time it is reached (what is shared counts as often as it is met; a slice's spare places count too). A statement '..UptoSaid' is the law's where the arguments, and the package variables that the reading takes, are together of bulk at most 1048576: NARROWER than '..Said'. Prove '..Said' where nothing that the law and all that it calls make is longer than what came in: it says more and counts as full. Else prove '..UptoSaid'. A law counts once. -/
mutual
def uptoBulk {H : Type} : DataW H → Nat
  | .lit (.string bytes) => bytes.length + 1
  | .lit _ => 1
  | .nil => 1
  | .ptr d => uptoBulk d + 1
  | .slice elems spare => uptoBulkAll elems + uptoBulkAll spare + 1
  | .agg parts => uptoBulkAll parts + 1
  | .iface _ d => uptoBulk d + 1
  | .map entries => uptoBulkEntries entries + 1
  | .held _ => 1
def uptoBulkAll {H : Type} : List (DataW H) → Nat
  | [] => 0
  | d :: r => uptoBulk d + uptoBulkAll r
def uptoBulkEntries {H : Type} : List (Lit × DataW H) → Nat
  | [] => 0
  | x :: r => uptoBulkEntry x + uptoBulkEntries r
def uptoBulkEntry {H : Type} : Lit × DataW H → Nat
  | (.string bytes, d) => bytes.length + uptoBulk d + 1
  | (_, d) => uptoBulk d + 1
 end
def uptoSmall : (H : Type) → List (DataW H) → Bool := fun _ ds => decide (uptoBulkAll ds ≤ 1048576)
def OpenSpec.upto (s : _root_.Go.ChangeSpec) : _root_.Go.OpenSpec := { _root_.Go.OpenSpec.ofChange s with cond := some uptoSmall }

/-- 'baggagelaw34.ForwardRoutes', WHERE WHAT IT READS IS OF BULK AT MOST 1048576: true; the input reads as it did. -/
def forwardRoutesUptoRow : OpenClaim := { program := "ytjeinbfnbcempaa", sum := "b5ed7ad6c491fa1d1bbc8379fb256ac4a10d8ee916520798036b6fd5c46e8a4f", func := "baggage/baggagelaw34.ForwardRoutes", spec := "forwardRoutes", unfollowed := true, recurses := true, apart := false, narrowed := true }
def ForwardRoutesUptoSaid : Prop := forwardRoutesUptoRow.holds Try.pinned (OpenSpec.upto forwardRoutesSpec)

/-- 'baggagelaw34.ForwardEarliest', WHERE WHAT IT READS IS OF BULK AT MOST 1048576: true; the input reads as it did. -/
def forwardEarliestUptoRow : OpenClaim := { program := "ytjeinbfnbcempaa", sum := "b5ed7ad6c491fa1d1bbc8379fb256ac4a10d8ee916520798036b6fd5c46e8a4f", func := "baggage/baggagelaw34.ForwardEarliest", spec := "forwardEarliest", unfollowed := true, recurses := true, apart := false, narrowed := true }
def ForwardEarliestUptoSaid : Prop := forwardEarliestUptoRow.holds Try.pinned (OpenSpec.upto forwardEarliestSpec)

/-- 'baggagelaw34.ForwardMonotone', WHERE WHAT IT READS IS OF BULK AT MOST 1048576: true; the input reads as it did. -/
def forwardMonotoneUptoRow : OpenClaim := { program := "ytjeinbfnbcempaa", sum := "b5ed7ad6c491fa1d1bbc8379fb256ac4a10d8ee916520798036b6fd5c46e8a4f", func := "baggage/baggagelaw34.ForwardMonotone", spec := "forwardMonotone", unfollowed := true, recurses := true, apart := false, narrowed := true }
def ForwardMonotoneUptoSaid : Prop := forwardMonotoneUptoRow.holds Try.pinned (OpenSpec.upto forwardMonotoneSpec)

/-- 'baggagelaw34.ForwardChecks', WHERE WHAT IT READS IS OF BULK AT MOST 1048576: true; the input reads as it did. -/
def forwardChecksUptoRow : OpenClaim := { program := "ytjeinbfnbcempaa", sum := "b5ed7ad6c491fa1d1bbc8379fb256ac4a10d8ee916520798036b6fd5c46e8a4f", func := "baggage/baggagelaw34.ForwardChecks", spec := "forwardChecks", unfollowed := true, recurses := true, apart := false, narrowed := true }
def ForwardChecksUptoSaid : Prop := forwardChecksUptoRow.holds Try.pinned (OpenSpec.upto forwardChecksSpec)

/-- 'baggagelaw34.ForwardBooks', WHERE WHAT IT READS IS OF BULK AT MOST 1048576: true; the input reads as it did. -/
def forwardBooksUptoRow : OpenClaim := { program := "ytjeinbfnbcempaa", sum := "b5ed7ad6c491fa1d1bbc8379fb256ac4a10d8ee916520798036b6fd5c46e8a4f", func := "baggage/baggagelaw34.ForwardBooks", spec := "forwardBooks", unfollowed := true, recurses := true, apart := false, narrowed := true }
def ForwardBooksUptoSaid : Prop := forwardBooksUptoRow.holds Try.pinned (OpenSpec.upto forwardBooksSpec)

/-- 'baggagelaw34.ForwardQueue', WHERE WHAT IT READS IS OF BULK AT MOST 1048576: true; the input reads as it did. -/
def forwardQueueUptoRow : OpenClaim := { program := "ytjeinbfnbcempaa", sum := "b5ed7ad6c491fa1d1bbc8379fb256ac4a10d8ee916520798036b6fd5c46e8a4f", func := "baggage/baggagelaw34.ForwardQueue", spec := "forwardQueue", unfollowed := true, recurses := true, apart := false, narrowed := true }
def ForwardQueueUptoSaid : Prop := forwardQueueUptoRow.holds Try.pinned (OpenSpec.upto forwardQueueSpec)

end Rows
end Go.Proofs.Ytjeinbfnbcempaa
