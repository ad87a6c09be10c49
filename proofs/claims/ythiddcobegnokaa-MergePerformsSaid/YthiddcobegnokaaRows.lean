/-
  No cell of these rows narrows 'for every input' (looked for: loops, veiled, ifaces, maps, wideKeys, modest, calm, conditions, laid).
  DERIVED. THE GIVEN ROWS OF THIS SEAT. 7 by the template 'for every input the law returns true; each argument reads behind the call as it read before'; 0 by the template 'total and deterministic' (their statements: YthiddcobegnokaaTotals.lean).
  GIVEN WITH THE SEED: the statements are not yours to turn. If you find one false, say at which input.
  Laid BY PROGRAM, IN A SANDBOX (cutbox-rows.mjs): the forced cells as the released guide's own fill.sh prints them over the translation 617e3bf35cb928c9… (all of the seat's roots in one cut). By AI agents, Wed Nov 11 2026. No macro, syntax, notation, axiom, sorry.
-/
import Derived.Test.YthiddcobegnokaaChecked
import GoSem.Claim
import GoSem.ClaimJoined
import GoSem.ClaimMapViews
import Derived.JoinedTies
import Derived.KernelRfl
namespace Go.Proofs.Ythiddcobegnokaa
/- THE CELL 'sum', in the pinned program and in every row, IS THE sha256 OF THE DUMP (.gsa) THAT YthiddcobegnokaaProg.lean LOADS. Nothing in Lean hashes anything: it is a label: what it is worth is what the hold of that sum in a sandbox is worth. -/
noncomputable def Try.pinned : Pinned := { name := "ythiddcobegnokaa", sum := "617e3bf35cb928c995b2d6e041f8bb63c954f2bd071d5d6abc1806013921174f", checked := Try.checked }
namespace Rows
def none {H : Type} : Left H := { results := [], args := [] }

/-- 'baggagelaw30.MergeValidates': WHATEVER THE INPUT: true; the input reads as it did. -/
def mergeValidatesSpec : ChangeSpec := { name := "mergeValidates", fn := fun _ => fun
  | [d1, d2] => { results := [.lit (.bool true)], args := [d1, d2] }
  | _ => none }
def mergeValidatesRow : OpenClaim := { program := "ythiddcobegnokaa", sum := "617e3bf35cb928c995b2d6e041f8bb63c954f2bd071d5d6abc1806013921174f", func := "baggage/baggagelaw30.MergeValidates", spec := "mergeValidates", unfollowed := true, recurses := true, plainKeys := false, apart := false }
def MergeValidatesSaid : Prop := mergeValidatesRow.holds Try.pinned (OpenSpec.ofChange mergeValidatesSpec)

/-- ITS FALSE NEIGHBOUR: 'it returns false'. Refute it at one input. -/
def mergeValidatesWrong : ChangeSpec := { name := "mergeValidates", fn := fun _ => fun
  | [d1, d2] => { results := [.lit (.bool false)], args := [d1, d2] }
  | _ => none }
def MergeValidatesWrongFalsely : Prop := mergeValidatesRow.holds Try.pinned (OpenSpec.ofChange mergeValidatesWrong)

/-- 'baggagelaw30.MergeUnites': WHATEVER THE INPUT: true; the input reads as it did. -/
def mergeUnitesSpec : ChangeSpec := { name := "mergeUnites", fn := fun _ => fun
  | [d1, d2, d3] => { results := [.lit (.bool true)], args := [d1, d2, d3] }
  | _ => none }
def mergeUnitesRow : OpenClaim := { program := "ythiddcobegnokaa", sum := "617e3bf35cb928c995b2d6e041f8bb63c954f2bd071d5d6abc1806013921174f", func := "baggage/baggagelaw30.MergeUnites", spec := "mergeUnites", unfollowed := true, recurses := true, plainKeys := false, apart := false }
def MergeUnitesSaid : Prop := mergeUnitesRow.holds Try.pinned (OpenSpec.ofChange mergeUnitesSpec)

/-- ITS FALSE NEIGHBOUR: 'it returns false'. Refute it at one input. -/
def mergeUnitesWrong : ChangeSpec := { name := "mergeUnites", fn := fun _ => fun
  | [d1, d2, d3] => { results := [.lit (.bool false)], args := [d1, d2, d3] }
  | _ => none }
def MergeUnitesWrongFalsely : Prop := mergeUnitesRow.holds Try.pinned (OpenSpec.ofChange mergeUnitesWrong)

/-- 'baggagelaw30.MergePlaces': WHATEVER THE INPUT: true; the input reads as it did. -/
def mergePlacesSpec : ChangeSpec := { name := "mergePlaces", fn := fun _ => fun
  | [d1, d2] => { results := [.lit (.bool true)], args := [d1, d2] }
  | _ => none }
def mergePlacesRow : OpenClaim := { program := "ythiddcobegnokaa", sum := "617e3bf35cb928c995b2d6e041f8bb63c954f2bd071d5d6abc1806013921174f", func := "baggage/baggagelaw30.MergePlaces", spec := "mergePlaces", unfollowed := true, recurses := true, plainKeys := false, apart := false }
def MergePlacesSaid : Prop := mergePlacesRow.holds Try.pinned (OpenSpec.ofChange mergePlacesSpec)

/-- ITS FALSE NEIGHBOUR: 'it returns false'. Refute it at one input. -/
def mergePlacesWrong : ChangeSpec := { name := "mergePlaces", fn := fun _ => fun
  | [d1, d2] => { results := [.lit (.bool false)], args := [d1, d2] }
  | _ => none }
def MergePlacesWrongFalsely : Prop := mergePlacesRow.holds Try.pinned (OpenSpec.ofChange mergePlacesWrong)

/-- 'baggagelaw30.MergeLattice': WHATEVER THE INPUT: true; the input reads as it did. -/
def mergeLatticeSpec : ChangeSpec := { name := "mergeLattice", fn := fun _ => fun
  | [d] => { results := [.lit (.bool true)], args := [d] }
  | _ => none }
def mergeLatticeRow : OpenClaim := { program := "ythiddcobegnokaa", sum := "617e3bf35cb928c995b2d6e041f8bb63c954f2bd071d5d6abc1806013921174f", func := "baggage/baggagelaw30.MergeLattice", spec := "mergeLattice", unfollowed := true, recurses := true, plainKeys := false, apart := false }
def MergeLatticeSaid : Prop := mergeLatticeRow.holds Try.pinned (OpenSpec.ofChange mergeLatticeSpec)

/-- ITS FALSE NEIGHBOUR: 'it returns false'. Refute it at one input. -/
def mergeLatticeWrong : ChangeSpec := { name := "mergeLattice", fn := fun _ => fun
  | [d] => { results := [.lit (.bool false)], args := [d] }
  | _ => none }
def MergeLatticeWrongFalsely : Prop := mergeLatticeRow.holds Try.pinned (OpenSpec.ofChange mergeLatticeWrong)

/-- 'baggagelaw30.MergeLogs': WHATEVER THE INPUT: true; the input reads as it did. -/
def mergeLogsSpec : ChangeSpec := { name := "mergeLogs", fn := fun _ => fun
  | [d1, d2] => { results := [.lit (.bool true)], args := [d1, d2] }
  | _ => none }
def mergeLogsRow : OpenClaim := { program := "ythiddcobegnokaa", sum := "617e3bf35cb928c995b2d6e041f8bb63c954f2bd071d5d6abc1806013921174f", func := "baggage/baggagelaw30.MergeLogs", spec := "mergeLogs", unfollowed := true, recurses := true, plainKeys := false, apart := false }
def MergeLogsSaid : Prop := mergeLogsRow.holds Try.pinned (OpenSpec.ofChange mergeLogsSpec)

/-- ITS FALSE NEIGHBOUR: 'it returns false'. Refute it at one input. -/
def mergeLogsWrong : ChangeSpec := { name := "mergeLogs", fn := fun _ => fun
  | [d1, d2] => { results := [.lit (.bool false)], args := [d1, d2] }
  | _ => none }
def MergeLogsWrongFalsely : Prop := mergeLogsRow.holds Try.pinned (OpenSpec.ofChange mergeLogsWrong)

/-- 'baggagelaw30.MergeMay': WHATEVER THE INPUT: true; the input reads as it did. -/
def mergeMaySpec : ChangeSpec := { name := "mergeMay", fn := fun _ => fun
  | [d1, d2] => { results := [.lit (.bool true)], args := [d1, d2] }
  | _ => none }
def mergeMayRow : OpenClaim := { program := "ythiddcobegnokaa", sum := "617e3bf35cb928c995b2d6e041f8bb63c954f2bd071d5d6abc1806013921174f", func := "baggage/baggagelaw30.MergeMay", spec := "mergeMay", unfollowed := true, recurses := true, plainKeys := false, apart := false }
def MergeMaySaid : Prop := mergeMayRow.holds Try.pinned (OpenSpec.ofChange mergeMaySpec)

/-- ITS FALSE NEIGHBOUR: 'it returns false'. Refute it at one input. -/
def mergeMayWrong : ChangeSpec := { name := "mergeMay", fn := fun _ => fun
  | [d1, d2] => { results := [.lit (.bool false)], args := [d1, d2] }
  | _ => none }
def MergeMayWrongFalsely : Prop := mergeMayRow.holds Try.pinned (OpenSpec.ofChange mergeMayWrong)

/-- 'baggagelaw30.MergePerforms': WHATEVER THE INPUT: true; the input reads as it did. -/
def mergePerformsSpec : ChangeSpec := { name := "mergePerforms", fn := fun _ => fun
  | [d] => { results := [.lit (.bool true)], args := [d] }
  | _ => none }
def mergePerformsRow : OpenClaim := { program := "ythiddcobegnokaa", sum := "617e3bf35cb928c995b2d6e041f8bb63c954f2bd071d5d6abc1806013921174f", func := "baggage/baggagelaw30.MergePerforms", spec := "mergePerforms", unfollowed := true, recurses := true, plainKeys := false, apart := false }
def MergePerformsSaid : Prop := mergePerformsRow.holds Try.pinned (OpenSpec.ofChange mergePerformsSpec)

/-- ITS FALSE NEIGHBOUR: 'it returns false'. Refute it at one input. -/
def mergePerformsWrong : ChangeSpec := { name := "mergePerforms", fn := fun _ => fun
  | [d] => { results := [.lit (.bool false)], args := [d] }
  | _ => none }
def MergePerformsWrongFalsely : Prop := mergePerformsRow.holds Try.pinned (OpenSpec.ofChange mergePerformsWrong)

/- THE SECOND FORM. 'bulk': how many values and letters a reading holds, each counted each time it is reached (what is shared counts as often as it is met; a slice's spare places count too). A statement '..UptoSaid' is the law's where the arguments, and the package variables that the reading takes, are together of bulk at most 1048576: NARROWER than '..Said'. Prove '..Said' where nothing that the law and all that it calls make is longer than what came in: it says more and counts as full. Else prove '..UptoSaid'. A law counts once. -/
mutual
def uptoBulk {H : Type} : DataW H → Nat
  | .lit (.string bytes) => bytes.length + 1
  | .lit _ => 1
  | .nil => 1
  | .ptr d => uptoBulk d + 1
  | .slice elems spare => uptoBulkAll elems + uptoBulkAll spare + 1
  | .agg parts => uptoBulkAll parts + 1
  | .iface _ d => uptoBulk d + 1
  | .map entries => uptoBulkEntries entries + 1
  | .held _ => 1
def uptoBulkAll {H : Type} : List (DataW H) → Nat
  | [] => 0
  | d :: r => uptoBulk d + uptoBulkAll r
def uptoBulkEntries {H : Type} : List (Lit × DataW H) → Nat
  | [] => 0
  | x :: r => uptoBulkEntry x + uptoBulkEntries r
def uptoBulkEntry {H : Type} : Lit × DataW H → Nat
  | (.string bytes, d) => bytes.length + uptoBulk d + 1
  | (_, d) => uptoBulk d + 1
 end
def uptoSmall : (H : Type) → List (DataW H) → Bool := fun _ ds => decide (uptoBulkAll ds ≤ 1048576)
def OpenSpec.upto (s : _root_.Go.ChangeSpec) : _root_.Go.OpenSpec := { _root_.Go.OpenSpec.ofChange s with cond := some uptoSmall }

/-- 'baggagelaw30.MergeValidates', WHERE WHAT IT READS IS OF BULK AT MOST 1048576: true; the input reads as it did. -/
def mergeValidatesUptoRow : OpenClaim := { program := "ythiddcobegnokaa", sum := "617e3bf35cb928c995b2d6e041f8bb63c954f2bd071d5d6abc1806013921174f", func := "baggage/baggagelaw30.MergeValidates", spec := "mergeValidates", unfollowed := true, recurses := true, plainKeys := false, apart := false, narrowed := true }
def MergeValidatesUptoSaid : Prop := mergeValidatesUptoRow.holds Try.pinned (OpenSpec.upto mergeValidatesSpec)

/-- 'baggagelaw30.MergeUnites', WHERE WHAT IT READS IS OF BULK AT MOST 1048576: true; the input reads as it did. -/
def mergeUnitesUptoRow : OpenClaim := { program := "ythiddcobegnokaa", sum := "617e3bf35cb928c995b2d6e041f8bb63c954f2bd071d5d6abc1806013921174f", func := "baggage/baggagelaw30.MergeUnites", spec := "mergeUnites", unfollowed := true, recurses := true, plainKeys := false, apart := false, narrowed := true }
def MergeUnitesUptoSaid : Prop := mergeUnitesUptoRow.holds Try.pinned (OpenSpec.upto mergeUnitesSpec)

/-- 'baggagelaw30.MergePlaces', WHERE WHAT IT READS IS OF BULK AT MOST 1048576: true; the input reads as it did. -/
def mergePlacesUptoRow : OpenClaim := { program := "ythiddcobegnokaa", sum := "617e3bf35cb928c995b2d6e041f8bb63c954f2bd071d5d6abc1806013921174f", func := "baggage/baggagelaw30.MergePlaces", spec := "mergePlaces", unfollowed := true, recurses := true, plainKeys := false, apart := false, narrowed := true }
def MergePlacesUptoSaid : Prop := mergePlacesUptoRow.holds Try.pinned (OpenSpec.upto mergePlacesSpec)

/-- 'baggagelaw30.MergeLattice', WHERE WHAT IT READS IS OF BULK AT MOST 1048576: true; the input reads as it did. -/
def mergeLatticeUptoRow : OpenClaim := { program := "ythiddcobegnokaa", sum := "617e3bf35cb928c995b2d6e041f8bb63c954f2bd071d5d6abc1806013921174f", func := "baggage/baggagelaw30.MergeLattice", spec := "mergeLattice", unfollowed := true, recurses := true, plainKeys := false, apart := false, narrowed := true }
def MergeLatticeUptoSaid : Prop := mergeLatticeUptoRow.holds Try.pinned (OpenSpec.upto mergeLatticeSpec)

/-- 'baggagelaw30.MergeLogs', WHERE WHAT IT READS IS OF BULK AT MOST 1048576: true; the input reads as it did. -/
def mergeLogsUptoRow : OpenClaim := { program := "ythiddcobegnokaa", sum := "617e3bf35cb928c995b2d6e041f8bb63c954f2bd071d5d6abc1806013921174f", func := "baggage/baggagelaw30.MergeLogs", spec := "mergeLogs", unfollowed := true, recurses := true, plainKeys := false, apart := false, narrowed := true }
def MergeLogsUptoSaid : Prop := mergeLogsUptoRow.holds Try.pinned (OpenSpec.upto mergeLogsSpec)

/-- 'baggagelaw30.MergeMay', WHERE WHAT IT READS IS OF BULK AT MOST 1048576: true; the input reads as it did. -/
def mergeMayUptoRow : OpenClaim := { program := "ythiddcobegnokaa", sum := "617e3bf35cb928c995b2d6e041f8bb63c954f2bd071d5d6abc1806013921174f", func := "baggage/baggagelaw30.MergeMay", spec := "mergeMay", unfollowed := true, recurses := true, plainKeys := false, apart := false, narrowed := true }
def MergeMayUptoSaid : Prop := mergeMayUptoRow.holds Try.pinned (OpenSpec.upto mergeMaySpec)

/-- 'baggagelaw30.MergePerforms', WHERE WHAT IT READS IS OF BULK AT MOST 1048576: true; the input reads as it did. -/
def mergePerformsUptoRow : OpenClaim := { program := "ythiddcobegnokaa", sum := "617e3bf35cb928c995b2d6e041f8bb63c954f2bd071d5d6abc1806013921174f", func := "baggage/baggagelaw30.MergePerforms", spec := "mergePerforms", unfollowed := true, recurses := true, plainKeys := false, apart := false, narrowed := true }
def MergePerformsUptoSaid : Prop := mergePerformsUptoRow.holds Try.pinned (OpenSpec.upto mergePerformsSpec)

end Rows
end Go.Proofs.Ythiddcobegnokaa
