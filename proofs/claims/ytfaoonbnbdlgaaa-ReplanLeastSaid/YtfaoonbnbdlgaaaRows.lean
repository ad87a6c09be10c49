/-
  No cell of these rows narrows 'for every input' (looked for: loops, veiled, ifaces, maps, wideKeys, modest, calm, conditions, laid).
  DERIVED. THE GIVEN ROWS OF THIS SEAT. 3 by the template 'for every input the law returns true; each argument reads behind the call as it read before'; 0 by the template 'total and deterministic' (their statements: YtfaoonbnbdlgaaaTotals.lean).
  GIVEN WITH THE SEED: the statements are not yours to turn. If you find one false, say at which input.
  Laid BY PROGRAM, IN A SANDBOX (cutbox-rows.mjs): the forced cells as the released guide's own fill.sh prints them over the translation ff39de969f8eba29… (all of the seat's roots in one cut). By AI agents, Wed Nov 11 2026. No macro, syntax, notation, axiom, sorry.
-/
import Derived.Test.YtfaoonbnbdlgaaaChecked
import GoSem.Claim
import GoSem.ClaimJoined
import GoSem.ClaimMapViews
import Derived.JoinedTies
import Derived.KernelRfl
namespace Go.Proofs.Ytfaoonbnbdlgaaa
/- THE CELL 'sum', in the pinned program and in every row, IS THE sha256 OF THE DUMP (.gsa) THAT YtfaoonbnbdlgaaaProg.lean LOADS. Nothing in Lean hashes anything: it is a label: what it is worth is what the hold of that sum in a sandbox is worth. -/
noncomputable def Try.pinned : Pinned := { name := "ytfaoonbnbdlgaaa", sum := "ff39de969f8eba29ab22383c25781a27c039dad7ee4bb1afb8a0f3d02f875da9", checked := Try.checked }
namespace Rows
def none {H : Type} : Left H := { results := [], args := [] }

/-- 'baggagelaw22.ReplanLeast': WHATEVER THE INPUT: true; the input reads as it did. -/
def replanLeastSpec : ChangeSpec := { name := "replanLeast", fn := fun _ => fun
  | [d] => { results := [.lit (.bool true)], args := [d] }
  | _ => none }
def replanLeastRow : OpenClaim := { program := "ytfaoonbnbdlgaaa", sum := "ff39de969f8eba29ab22383c25781a27c039dad7ee4bb1afb8a0f3d02f875da9", func := "baggage/baggagelaw22.ReplanLeast", spec := "replanLeast", unfollowed := true, recurses := true, plainKeys := false, apart := false }
def ReplanLeastSaid : Prop := replanLeastRow.holds Try.pinned (OpenSpec.ofChange replanLeastSpec)

/-- ITS FALSE NEIGHBOUR: 'it returns false'. Refute it at one input. -/
def replanLeastWrong : ChangeSpec := { name := "replanLeast", fn := fun _ => fun
  | [d] => { results := [.lit (.bool false)], args := [d] }
  | _ => none }
def ReplanLeastWrongFalsely : Prop := replanLeastRow.holds Try.pinned (OpenSpec.ofChange replanLeastWrong)

/-- 'baggagelaw22.ReplanExists': WHATEVER THE INPUT: true; the input reads as it did. -/
def replanExistsSpec : ChangeSpec := { name := "replanExists", fn := fun _ => fun
  | [d] => { results := [.lit (.bool true)], args := [d] }
  | _ => none }
def replanExistsRow : OpenClaim := { program := "ytfaoonbnbdlgaaa", sum := "ff39de969f8eba29ab22383c25781a27c039dad7ee4bb1afb8a0f3d02f875da9", func := "baggage/baggagelaw22.ReplanExists", spec := "replanExists", unfollowed := true, recurses := true, plainKeys := false, apart := false }
def ReplanExistsSaid : Prop := replanExistsRow.holds Try.pinned (OpenSpec.ofChange replanExistsSpec)

/-- ITS FALSE NEIGHBOUR: 'it returns false'. Refute it at one input. -/
def replanExistsWrong : ChangeSpec := { name := "replanExists", fn := fun _ => fun
  | [d] => { results := [.lit (.bool false)], args := [d] }
  | _ => none }
def ReplanExistsWrongFalsely : Prop := replanExistsRow.holds Try.pinned (OpenSpec.ofChange replanExistsWrong)

/-- 'baggagelaw22.ReplanStable': WHATEVER THE INPUT: true; the input reads as it did. -/
def replanStableSpec : ChangeSpec := { name := "replanStable", fn := fun _ => fun
  | [d1, d2] => { results := [.lit (.bool true)], args := [d1, d2] }
  | _ => none }
def replanStableRow : OpenClaim := { program := "ytfaoonbnbdlgaaa", sum := "ff39de969f8eba29ab22383c25781a27c039dad7ee4bb1afb8a0f3d02f875da9", func := "baggage/baggagelaw22.ReplanStable", spec := "replanStable", unfollowed := true, recurses := true, plainKeys := false, apart := false }
def ReplanStableSaid : Prop := replanStableRow.holds Try.pinned (OpenSpec.ofChange replanStableSpec)

/-- ITS FALSE NEIGHBOUR: 'it returns false'. Refute it at one input. -/
def replanStableWrong : ChangeSpec := { name := "replanStable", fn := fun _ => fun
  | [d1, d2] => { results := [.lit (.bool false)], args := [d1, d2] }
  | _ => none }
def ReplanStableWrongFalsely : Prop := replanStableRow.holds Try.pinned (OpenSpec.ofChange replanStableWrong)

/- THE SECOND FORM. 'bulk': how many values and letters a reading holds, each counted each time it is reached (what is shared counts as often as it is met; a slice's spare places count too). A statement '..UptoSaid' is the law's where the arguments, and the package variables that the reading takes, are together of bulk at most 1048576: NARROWER than '..Said'. Prove '..Said' where nothing that the law and all that it calls make is longer than what came in: it says more and counts as full. Else prove '..UptoSaid'. A law counts once. -/
mutual
def uptoBulk {H : Type} : DataW H → Nat
  | .lit (.string bytes) => bytes.length + 1
  | .lit _ => 1
  | .nil => 1
  | .ptr d => uptoBulk d + 1
  | .slice elems spare => uptoBulkAll elems + uptoBulkAll spare + 1
  | .agg parts => uptoBulkAll parts + 1
  | .iface _ d => uptoBulk d + 1
  | .map entries => uptoBulkEntries entries + 1
  | .held _ => 1
def uptoBulkAll {H : Type} : List (DataW H) → Nat
  | [] => 0
  | d :: r => uptoBulk d + uptoBulkAll r
def uptoBulkEntries {H : Type} : List (Lit × DataW H) → Nat
  | [] => 0
  | x :: r => uptoBulkEntry x + uptoBulkEntries r
def uptoBulkEntry {H : Type} : Lit × DataW H → Nat
  | (.string bytes, d) => bytes.length + uptoBulk d + 1
  | (_, d) => uptoBulk d + 1
 end
def uptoSmall : (H : Type) → List (DataW H) → Bool := fun _ ds => decide (uptoBulkAll ds ≤ 1048576)
def OpenSpec.upto (s : _root_.Go.ChangeSpec) : _root_.Go.OpenSpec := { _root_.Go.OpenSpec.ofChange s with cond := some uptoSmall }

/-- 'baggagelaw22.ReplanLeast', WHERE WHAT IT READS IS OF BULK AT MOST 1048576: true; the input reads as it did. -/
def replanLeastUptoRow : OpenClaim := { program := "ytfaoonbnbdlgaaa", sum := "ff39de969f8eba29ab22383c25781a27c039dad7ee4bb1afb8a0f3d02f875da9", func := "baggage/baggagelaw22.ReplanLeast", spec := "replanLeast", unfollowed := true, recurses := true, plainKeys := false, apart := false, narrowed := true }
def ReplanLeastUptoSaid : Prop := replanLeastUptoRow.holds Try.pinned (OpenSpec.upto replanLeastSpec)

/-- 'baggagelaw22.ReplanExists', WHERE WHAT IT READS IS OF BULK AT MOST 1048576: true; the input reads as it did. -/
def replanExistsUptoRow : OpenClaim := { program := "ytfaoonbnbdlgaaa", sum := "ff39de969f8eba29ab22383c25781a27c039dad7ee4bb1afb8a0f3d02f875da9", func := "baggage/baggagelaw22.ReplanExists", spec := "replanExists", unfollowed := true, recurses := true, plainKeys := false, apart := false, narrowed := true }
def ReplanExistsUptoSaid : Prop := replanExistsUptoRow.holds Try.pinned (OpenSpec.upto replanExistsSpec)

/-- 'baggagelaw22.ReplanStable', WHERE WHAT IT READS IS OF BULK AT MOST 1048576: true; the input reads as it did. -/
def replanStableUptoRow : OpenClaim := { program := "ytfaoonbnbdlgaaa", sum := "ff39de969f8eba29ab22383c25781a27c039dad7ee4bb1afb8a0f3d02f875da9", func := "baggage/baggagelaw22.ReplanStable", spec := "replanStable", unfollowed := true, recurses := true, plainKeys := false, apart := false, narrowed := true }
def ReplanStableUptoSaid : Prop := replanStableUptoRow.holds Try.pinned (OpenSpec.upto replanStableSpec)

end Rows
end Go.Proofs.Ytfaoonbnbdlgaaa
