/-
  No cell of these rows narrows 'for every input' (looked for: loops, veiled, ifaces, maps, wideKeys, modest, calm, conditions, laid).
  DERIVED. THE GIVEN ROWS OF THIS SEAT. 2 by the template 'for every input the law returns true; each argument reads behind the call as it read before'; 0 by the template 'total and deterministic' (their statements: YtdeihcabmpcaoaaGreatTotals.lean).
  GIVEN WITH THE SEED: the statements are not yours to turn. If you find one false, say at which input.
  Laid BY PROGRAM, IN A SANDBOX (cutbox-rows.mjs): the forced cells as the released guide's own fill.sh prints them over the translation 98176027128cebb3… (all of the seat's roots in one cut). By AI agents, Wed Nov 11 2026. No macro, syntax, notation, axiom, sorry.
-/
import Derived.Test.YtdeihcabmpcaoaaGreatChecked
import GoSem.Claim
import GoSem.ClaimJoined
import GoSem.ClaimMapViews
import Derived.JoinedTies
import Derived.KernelRfl
namespace Go.Proofs.YtdeihcabmpcaoaaGreat
/- THE CELL 'sum', in the pinned program and in every row, IS THE sha256 OF THE DUMP (.gsa) THAT YtdeihcabmpcaoaaGreatProg.lean LOADS. Nothing in Lean hashes anything: it is a label: what it is worth is what the hold of that sum in a sandbox is worth. -/
noncomputable def Tryz.pinned : Pinned := { name := "ytdeihcabmpcaoaagreat", sum := "98176027128cebb3024846b6a8f141a5b7ea4a158b1ec5d1b0e2158693d0c9d1", checked := Tryz.checked }
namespace Rows
def none {H : Type} : Left H := { results := [], args := [] }

/-- 'baggagelaw22.ReplanFails': WHATEVER THE INPUT: true; the input reads as it did. -/
def replanFailsSpec : ChangeSpec := { name := "replanFails", fn := fun _ => fun
  | [d1, d2] => { results := [.lit (.bool true)], args := [d1, d2] }
  | _ => none }
def replanFailsRow : OpenClaim := { program := "ytdeihcabmpcaoaagreat", sum := "98176027128cebb3024846b6a8f141a5b7ea4a158b1ec5d1b0e2158693d0c9d1", func := "baggage/baggagelaw22.ReplanFails", spec := "replanFails", unfollowed := true, recurses := true, plainKeys := false, apart := false }
def ReplanFailsSaid : Prop := replanFailsRow.holds Tryz.pinned (OpenSpec.ofChange replanFailsSpec)

/-- ITS FALSE NEIGHBOUR: 'it returns false'. Refute it at one input. -/
def replanFailsWrong : ChangeSpec := { name := "replanFails", fn := fun _ => fun
  | [d1, d2] => { results := [.lit (.bool false)], args := [d1, d2] }
  | _ => none }
def ReplanFailsWrongFalsely : Prop := replanFailsRow.holds Tryz.pinned (OpenSpec.ofChange replanFailsWrong)

/-- 'baggagelaw22.ReplanPlans': WHATEVER THE INPUT: true; the input reads as it did. -/
def replanPlansSpec : ChangeSpec := { name := "replanPlans", fn := fun _ => fun
  | [d] => { results := [.lit (.bool true)], args := [d] }
  | _ => none }
def replanPlansRow : OpenClaim := { program := "ytdeihcabmpcaoaagreat", sum := "98176027128cebb3024846b6a8f141a5b7ea4a158b1ec5d1b0e2158693d0c9d1", func := "baggage/baggagelaw22.ReplanPlans", spec := "replanPlans", unfollowed := true, recurses := true, plainKeys := false, apart := false }
def ReplanPlansSaid : Prop := replanPlansRow.holds Tryz.pinned (OpenSpec.ofChange replanPlansSpec)

/-- ITS FALSE NEIGHBOUR: 'it returns false'. Refute it at one input. -/
def replanPlansWrong : ChangeSpec := { name := "replanPlans", fn := fun _ => fun
  | [d] => { results := [.lit (.bool false)], args := [d] }
  | _ => none }
def ReplanPlansWrongFalsely : Prop := replanPlansRow.holds Tryz.pinned (OpenSpec.ofChange replanPlansWrong)

/- THE SECOND FORM. 'bulk': how many values and letters a reading holds, each counted each time it is reached (what is shared counts as often as it is met; a slice's spare places count too). A statement '..UptoSaid' is the law's where the arguments, and the package variables that the reading takes, are together of bulk at most 1048576: NARROWER than '..Said'. Prove '..Said' where nothing that the law and all that it calls make is longer than what came in: it says more and counts as full. Else prove '..UptoSaid'. A law counts once. -/
mutual
def uptoBulk {H : Type} : DataW H → Nat
  | .lit (.string bytes) => bytes.length + 1
  | .lit _ => 1
  | .nil => 1
  | .ptr d => uptoBulk d + 1
  | .slice elems spare => uptoBulkAll elems + uptoBulkAll spare + 1
  | .agg parts => uptoBulkAll parts + 1
  | .iface _ d => uptoBulk d + 1
  | .map entries => uptoBulkEntries entries + 1
  | .held _ => 1
def uptoBulkAll {H : Type} : List (DataW H) → Nat
  | [] => 0
  | d :: r => uptoBulk d + uptoBulkAll r
def uptoBulkEntries {H : Type} : List (Lit × DataW H) → Nat
  | [] => 0
  | x :: r => uptoBulkEntry x + uptoBulkEntries r
def uptoBulkEntry {H : Type} : Lit × DataW H → Nat
  | (.string bytes, d) => bytes.length + uptoBulk d + 1
  | (_, d) => uptoBulk d + 1
 end
def uptoSmall : (H : Type) → List (DataW H) → Bool := fun _ ds => decide (uptoBulkAll ds ≤ 1048576)
def OpenSpec.upto (s : _root_.Go.ChangeSpec) : _root_.Go.OpenSpec := { _root_.Go.OpenSpec.ofChange s with cond := some uptoSmall }

/-- 'baggagelaw22.ReplanFails', WHERE WHAT IT READS IS OF BULK AT MOST 1048576: true; the input reads as it did. -/
def replanFailsUptoRow : OpenClaim := { program := "ytdeihcabmpcaoaagreat", sum := "98176027128cebb3024846b6a8f141a5b7ea4a158b1ec5d1b0e2158693d0c9d1", func := "baggage/baggagelaw22.ReplanFails", spec := "replanFails", unfollowed := true, recurses := true, plainKeys := false, apart := false, narrowed := true }
def ReplanFailsUptoSaid : Prop := replanFailsUptoRow.holds Tryz.pinned (OpenSpec.upto replanFailsSpec)

/-- 'baggagelaw22.ReplanPlans', WHERE WHAT IT READS IS OF BULK AT MOST 1048576: true; the input reads as it did. -/
def replanPlansUptoRow : OpenClaim := { program := "ytdeihcabmpcaoaagreat", sum := "98176027128cebb3024846b6a8f141a5b7ea4a158b1ec5d1b0e2158693d0c9d1", func := "baggage/baggagelaw22.ReplanPlans", spec := "replanPlans", unfollowed := true, recurses := true, plainKeys := false, apart := false, narrowed := true }
def ReplanPlansUptoSaid : Prop := replanPlansUptoRow.holds Tryz.pinned (OpenSpec.upto replanPlansSpec)

end Rows
end Go.Proofs.YtdeihcabmpcaoaaGreat
