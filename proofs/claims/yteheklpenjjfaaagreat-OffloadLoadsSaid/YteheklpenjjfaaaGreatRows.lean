/-
  No cell of these rows narrows 'for every input' (looked for: loops, veiled, ifaces, maps, wideKeys, modest, calm, conditions, laid).
  DERIVED. THE GIVEN ROWS OF THIS SEAT. 4 by the template 'for every input the law returns true; each argument reads behind the call as it read before'; 0 by the template 'total and deterministic' (their statements: YteheklpenjjfaaaGreatTotals.lean).
  GIVEN WITH THE SEED: the statements are not yours to turn. If you find one false, say at which input.
  Laid BY PROGRAM, IN A SANDBOX (cutbox-rows.mjs): the forced cells as the released guide's own fill.sh prints them over the translation c936ef3de4550166… (all of the seat's roots in one cut). By AI agents, Wed Nov 11 2026. No macro, syntax, notation, axiom, sorry.
-/
import Derived.Test.YteheklpenjjfaaaGreatChecked
import GoSem.Claim
import GoSem.ClaimJoined
import GoSem.ClaimMapViews
import Derived.JoinedTies
import Derived.KernelRfl
namespace Go.Proofs.YteheklpenjjfaaaGreat
/- THE CELL 'sum', in the pinned program and in every row, IS THE sha256 OF THE DUMP (.gsa) THAT YteheklpenjjfaaaGreatProg.lean LOADS. Nothing in Lean hashes anything: it is a label: what it is worth is what the hold of that sum in a sandbox is worth. -/
noncomputable def Tryz.pinned : Pinned := { name := "yteheklpenjjfaaagreat", sum := "c936ef3de4550166602b26a0819adac71668027ab7c8fede5e5c39fa3ab5e133", checked := Tryz.checked }
namespace Rows
def none {H : Type} : Left H := { results := [], args := [] }

/-- 'baggagelaw31.OffloadOrders': WHATEVER THE INPUT: true; the input reads as it did. -/
def offloadOrdersSpec : ChangeSpec := { name := "offloadOrders", fn := fun _ => fun
  | [d1, d2, d3, d4, d5] => { results := [.lit (.bool true)], args := [d1, d2, d3, d4, d5] }
  | _ => none }
def offloadOrdersRow : OpenClaim := { program := "yteheklpenjjfaaagreat", sum := "c936ef3de4550166602b26a0819adac71668027ab7c8fede5e5c39fa3ab5e133", func := "baggage/baggagelaw31.OffloadOrders", spec := "offloadOrders", unfollowed := true, recurses := true, plainKeys := false, apart := false }
def OffloadOrdersSaid : Prop := offloadOrdersRow.holds Tryz.pinned (OpenSpec.ofChange offloadOrdersSpec)

/-- ITS FALSE NEIGHBOUR: 'it returns false'. Refute it at one input. -/
def offloadOrdersWrong : ChangeSpec := { name := "offloadOrders", fn := fun _ => fun
  | [d1, d2, d3, d4, d5] => { results := [.lit (.bool false)], args := [d1, d2, d3, d4, d5] }
  | _ => none }
def OffloadOrdersWrongFalsely : Prop := offloadOrdersRow.holds Tryz.pinned (OpenSpec.ofChange offloadOrdersWrong)

/-- 'baggagelaw31.OffloadLoads': WHATEVER THE INPUT: true; the input reads as it did. -/
def offloadLoadsSpec : ChangeSpec := { name := "offloadLoads", fn := fun _ => fun
  | [d] => { results := [.lit (.bool true)], args := [d] }
  | _ => none }
def offloadLoadsRow : OpenClaim := { program := "yteheklpenjjfaaagreat", sum := "c936ef3de4550166602b26a0819adac71668027ab7c8fede5e5c39fa3ab5e133", func := "baggage/baggagelaw31.OffloadLoads", spec := "offloadLoads", unfollowed := true, recurses := true, plainKeys := false, apart := false }
def OffloadLoadsSaid : Prop := offloadLoadsRow.holds Tryz.pinned (OpenSpec.ofChange offloadLoadsSpec)

/-- ITS FALSE NEIGHBOUR: 'it returns false'. Refute it at one input. -/
def offloadLoadsWrong : ChangeSpec := { name := "offloadLoads", fn := fun _ => fun
  | [d] => { results := [.lit (.bool false)], args := [d] }
  | _ => none }
def OffloadLoadsWrongFalsely : Prop := offloadLoadsRow.holds Tryz.pinned (OpenSpec.ofChange offloadLoadsWrong)

/-- 'baggagelaw31.OffloadReaches': WHATEVER THE INPUT: true; the input reads as it did. -/
def offloadReachesSpec : ChangeSpec := { name := "offloadReaches", fn := fun _ => fun
  | [d] => { results := [.lit (.bool true)], args := [d] }
  | _ => none }
def offloadReachesRow : OpenClaim := { program := "yteheklpenjjfaaagreat", sum := "c936ef3de4550166602b26a0819adac71668027ab7c8fede5e5c39fa3ab5e133", func := "baggage/baggagelaw31.OffloadReaches", spec := "offloadReaches", unfollowed := true, recurses := true, plainKeys := false, apart := false }
def OffloadReachesSaid : Prop := offloadReachesRow.holds Tryz.pinned (OpenSpec.ofChange offloadReachesSpec)

/-- ITS FALSE NEIGHBOUR: 'it returns false'. Refute it at one input. -/
def offloadReachesWrong : ChangeSpec := { name := "offloadReaches", fn := fun _ => fun
  | [d] => { results := [.lit (.bool false)], args := [d] }
  | _ => none }
def OffloadReachesWrongFalsely : Prop := offloadReachesRow.holds Tryz.pinned (OpenSpec.ofChange offloadReachesWrong)

/-- 'baggagelaw31.OffloadFewest': WHATEVER THE INPUT: true; the input reads as it did. -/
def offloadFewestSpec : ChangeSpec := { name := "offloadFewest", fn := fun _ => fun
  | [d1, d2] => { results := [.lit (.bool true)], args := [d1, d2] }
  | _ => none }
def offloadFewestRow : OpenClaim := { program := "yteheklpenjjfaaagreat", sum := "c936ef3de4550166602b26a0819adac71668027ab7c8fede5e5c39fa3ab5e133", func := "baggage/baggagelaw31.OffloadFewest", spec := "offloadFewest", unfollowed := true, recurses := true, plainKeys := false, apart := false }
def OffloadFewestSaid : Prop := offloadFewestRow.holds Tryz.pinned (OpenSpec.ofChange offloadFewestSpec)

/-- ITS FALSE NEIGHBOUR: 'it returns false'. Refute it at one input. -/
def offloadFewestWrong : ChangeSpec := { name := "offloadFewest", fn := fun _ => fun
  | [d1, d2] => { results := [.lit (.bool false)], args := [d1, d2] }
  | _ => none }
def OffloadFewestWrongFalsely : Prop := offloadFewestRow.holds Tryz.pinned (OpenSpec.ofChange offloadFewestWrong)

/- THE SECOND FORM. 'bulk': how many values and letters a reading holds, each counted each time it is reached (what is shared counts as often as it is met; a slice's spare places count too). A statement '..UptoSaid' is the law's where the arguments, and the package variables that the reading takes, are together of bulk at most 1048576: NARROWER than '..Said'. Prove '..Said' where nothing that the law and all that it calls make is longer than what came in: it says more and counts as full. Else prove '..UptoSaid'. A law counts once. -/
mutual
def uptoBulk {H : Type} : DataW H → Nat
  | .lit (.string bytes) => bytes.length + 1
  | .lit _ => 1
  | .nil => 1
  | .ptr d => uptoBulk d + 1
  | .slice elems spare => uptoBulkAll elems + uptoBulkAll spare + 1
  | .agg parts => uptoBulkAll parts + 1
  | .iface _ d => uptoBulk d + 1
  | .map entries => uptoBulkEntries entries + 1
  | .held _ => 1
def uptoBulkAll {H : Type} : List (DataW H) → Nat
  | [] => 0
  | d :: r => uptoBulk d + uptoBulkAll r
def uptoBulkEntries {H : Type} : List (Lit × DataW H) → Nat
  | [] => 0
  | x :: r => uptoBulkEntry x + uptoBulkEntries r
def uptoBulkEntry {H : Type} : Lit × DataW H → Nat
  | (.string bytes, d) => bytes.length + uptoBulk d + 1
  | (_, d) => uptoBulk d + 1
 end
def uptoSmall : (H : Type) → List (DataW H) → Bool := fun _ ds => decide (uptoBulkAll ds ≤ 1048576)
def OpenSpec.upto (s : _root_.Go.ChangeSpec) : _root_.Go.OpenSpec := { _root_.Go.OpenSpec.ofChange s with cond := some uptoSmall }

/-- 'baggagelaw31.OffloadOrders', WHERE WHAT IT READS IS OF BULK AT MOST 1048576: true; the input reads as it did. -/
def offloadOrdersUptoRow : OpenClaim := { program := "yteheklpenjjfaaagreat", sum := "c936ef3de4550166602b26a0819adac71668027ab7c8fede5e5c39fa3ab5e133", func := "baggage/baggagelaw31.OffloadOrders", spec := "offloadOrders", unfollowed := true, recurses := true, plainKeys := false, apart := false, narrowed := true }
def OffloadOrdersUptoSaid : Prop := offloadOrdersUptoRow.holds Tryz.pinned (OpenSpec.upto offloadOrdersSpec)

/-- 'baggagelaw31.OffloadLoads', WHERE WHAT IT READS IS OF BULK AT MOST 1048576: true; the input reads as it did. -/
def offloadLoadsUptoRow : OpenClaim := { program := "yteheklpenjjfaaagreat", sum := "c936ef3de4550166602b26a0819adac71668027ab7c8fede5e5c39fa3ab5e133", func := "baggage/baggagelaw31.OffloadLoads", spec := "offloadLoads", unfollowed := true, recurses := true, plainKeys := false, apart := false, narrowed := true }
def OffloadLoadsUptoSaid : Prop := offloadLoadsUptoRow.holds Tryz.pinned (OpenSpec.upto offloadLoadsSpec)

/-- 'baggagelaw31.OffloadReaches', WHERE WHAT IT READS IS OF BULK AT MOST 1048576: true; the input reads as it did. -/
def offloadReachesUptoRow : OpenClaim := { program := "yteheklpenjjfaaagreat", sum := "c936ef3de4550166602b26a0819adac71668027ab7c8fede5e5c39fa3ab5e133", func := "baggage/baggagelaw31.OffloadReaches", spec := "offloadReaches", unfollowed := true, recurses := true, plainKeys := false, apart := false, narrowed := true }
def OffloadReachesUptoSaid : Prop := offloadReachesUptoRow.holds Tryz.pinned (OpenSpec.upto offloadReachesSpec)

/-- 'baggagelaw31.OffloadFewest', WHERE WHAT IT READS IS OF BULK AT MOST 1048576: true; the input reads as it did. -/
def offloadFewestUptoRow : OpenClaim := { program := "yteheklpenjjfaaagreat", sum := "c936ef3de4550166602b26a0819adac71668027ab7c8fede5e5c39fa3ab5e133", func := "baggage/baggagelaw31.OffloadFewest", spec := "offloadFewest", unfollowed := true, recurses := true, plainKeys := false, apart := false, narrowed := true }
def OffloadFewestUptoSaid : Prop := offloadFewestUptoRow.holds Tryz.pinned (OpenSpec.upto offloadFewestSpec)

end Rows
end Go.Proofs.YteheklpenjjfaaaGreat
