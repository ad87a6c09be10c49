/-
  No cell of these rows narrows 'for every input' (looked for: loops, veiled, ifaces, maps, wideKeys, modest, calm, conditions, laid).
  DERIVED. THE GIVEN ROWS OF THIS SEAT. 3 by the template 'for every input the law returns true; each argument reads behind the call as it read before'; 0 by the template 'total and deterministic' (their statements: YtjhoidgpecgfoaaGreatTotals.lean).
  GIVEN WITH THE SEED: the statements are not yours to turn. If you find one false, say at which input.
  Laid BY PROGRAM, IN A SANDBOX (cutbox-rows.mjs): the forced cells as the released guide's own fill.sh prints them over the translation e19a32cc3b77324a… (all of the seat's roots in one cut). By AI agents, Wed Nov 11 2026. No macro, syntax, notation, axiom, sorry.
-/
import Derived.Test.YtjhoidgpecgfoaaGreatChecked
import GoSem.Claim
import GoSem.ClaimJoined
import GoSem.ClaimMapViews
import Derived.JoinedTies
import Derived.KernelRfl
namespace Go.Proofs.YtjhoidgpecgfoaaGreat
/- THE CELL 'sum', in the pinned program and in every row, IS THE sha256 OF THE DUMP (.gsa) THAT YtjhoidgpecgfoaaGreatProg.lean LOADS. Nothing in Lean hashes anything: it is a label: what it is worth is what the hold of that sum in a sandbox is worth. -/
noncomputable def Tryz.pinned : Pinned := { name := "ytjhoidgpecgfoaagreat", sum := "e19a32cc3b77324aef4c6b87e69d64b7ba1a6f1fa6eb1f59163bf6692783e346", checked := Tryz.checked }
namespace Rows
def none {H : Type} : Left H := { results := [], args := [] }

/-- 'baggagelaw32.DepartureBars': WHATEVER THE INPUT: true; the input reads as it did. -/
def departureBarsSpec : ChangeSpec := { name := "departureBars", fn := fun _ => fun
  | [d1, d2, d3, d4, d5, d6, d7, d8] => { results := [.lit (.bool true)], args := [d1, d2, d3, d4, d5, d6, d7, d8] }
  | _ => none }
def departureBarsRow : OpenClaim := { program := "ytjhoidgpecgfoaagreat", sum := "e19a32cc3b77324aef4c6b87e69d64b7ba1a6f1fa6eb1f59163bf6692783e346", func := "baggage/baggagelaw32.DepartureBars", spec := "departureBars", unfollowed := true, recurses := true, plainKeys := false, apart := false }
def DepartureBarsSaid : Prop := departureBarsRow.holds Tryz.pinned (OpenSpec.ofChange departureBarsSpec)

/-- ITS FALSE NEIGHBOUR: 'it returns false'. Refute it at one input. -/
def departureBarsWrong : ChangeSpec := { name := "departureBars", fn := fun _ => fun
  | [d1, d2, d3, d4, d5, d6, d7, d8] => { results := [.lit (.bool false)], args := [d1, d2, d3, d4, d5, d6, d7, d8] }
  | _ => none }
def DepartureBarsWrongFalsely : Prop := departureBarsRow.holds Tryz.pinned (OpenSpec.ofChange departureBarsWrong)

/-- 'baggagelaw32.DepartureClears': WHATEVER THE INPUT: true; the input reads as it did. -/
def departureClearsSpec : ChangeSpec := { name := "departureClears", fn := fun _ => fun
  | [d] => { results := [.lit (.bool true)], args := [d] }
  | _ => none }
def departureClearsRow : OpenClaim := { program := "ytjhoidgpecgfoaagreat", sum := "e19a32cc3b77324aef4c6b87e69d64b7ba1a6f1fa6eb1f59163bf6692783e346", func := "baggage/baggagelaw32.DepartureClears", spec := "departureClears", unfollowed := true, recurses := true, plainKeys := false, apart := false }
def DepartureClearsSaid : Prop := departureClearsRow.holds Tryz.pinned (OpenSpec.ofChange departureClearsSpec)

/-- ITS FALSE NEIGHBOUR: 'it returns false'. Refute it at one input. -/
def departureClearsWrong : ChangeSpec := { name := "departureClears", fn := fun _ => fun
  | [d] => { results := [.lit (.bool false)], args := [d] }
  | _ => none }
def DepartureClearsWrongFalsely : Prop := departureClearsRow.holds Tryz.pinned (OpenSpec.ofChange departureClearsWrong)

/-- 'baggagelaw32.DepartureOffline': WHATEVER THE INPUT: true; the input reads as it did. -/
def departureOfflineSpec : ChangeSpec := { name := "departureOffline", fn := fun _ => fun
  | [d] => { results := [.lit (.bool true)], args := [d] }
  | _ => none }
def departureOfflineRow : OpenClaim := { program := "ytjhoidgpecgfoaagreat", sum := "e19a32cc3b77324aef4c6b87e69d64b7ba1a6f1fa6eb1f59163bf6692783e346", func := "baggage/baggagelaw32.DepartureOffline", spec := "departureOffline", unfollowed := true, recurses := true, plainKeys := false, apart := false }
def DepartureOfflineSaid : Prop := departureOfflineRow.holds Tryz.pinned (OpenSpec.ofChange departureOfflineSpec)

/-- ITS FALSE NEIGHBOUR: 'it returns false'. Refute it at one input. -/
def departureOfflineWrong : ChangeSpec := { name := "departureOffline", fn := fun _ => fun
  | [d] => { results := [.lit (.bool false)], args := [d] }
  | _ => none }
def DepartureOfflineWrongFalsely : Prop := departureOfflineRow.holds Tryz.pinned (OpenSpec.ofChange departureOfflineWrong)

/- THE SECOND FORM. 'bulk': how many values and letters a reading holds, each counted each time it is reached (what is shared counts as often as it is met; a slice's spare places count too). A statement '..UptoSaid' is the law's where the arguments, and the package variables that the reading takes, are together of bulk at most 1048576: NARROWER than '..Said'. Prove '..Said' where nothing that the law and all that it calls make is longer than what came in: it says more and counts as full. Else prove '..UptoSaid'. A law counts once. -/
mutual
def uptoBulk {H : Type} : DataW H → Nat
  | .lit (.string bytes) => bytes.length + 1
  | .lit _ => 1
  | .nil => 1
  | .ptr d => uptoBulk d + 1
  | .slice elems spare => uptoBulkAll elems + uptoBulkAll spare + 1
  | .agg parts => uptoBulkAll parts + 1
  | .iface _ d => uptoBulk d + 1
  | .map entries => uptoBulkEntries entries + 1
  | .held _ => 1
def uptoBulkAll {H : Type} : List (DataW H) → Nat
  | [] => 0
  | d :: r => uptoBulk d + uptoBulkAll r
def uptoBulkEntries {H : Type} : List (Lit × DataW H) → Nat
  | [] => 0
  | x :: r => uptoBulkEntry x + uptoBulkEntries r
def uptoBulkEntry {H : Type} : Lit × DataW H → Nat
  | (.string bytes, d) => bytes.length + uptoBulk d + 1
  | (_, d) => uptoBulk d + 1
 end
def uptoSmall : (H : Type) → List (DataW H) → Bool := fun _ ds => decide (uptoBulkAll ds ≤ 1048576)
def OpenSpec.upto (s : _root_.Go.ChangeSpec) : _root_.Go.OpenSpec := { _root_.Go.OpenSpec.ofChange s with cond := some uptoSmall }

/-- 'baggagelaw32.DepartureBars', WHERE WHAT IT READS IS OF BULK AT MOST 1048576: true; the input reads as it did. -/
def departureBarsUptoRow : OpenClaim := { program := "ytjhoidgpecgfoaagreat", sum := "e19a32cc3b77324aef4c6b87e69d64b7ba1a6f1fa6eb1f59163bf6692783e346", func := "baggage/baggagelaw32.DepartureBars", spec := "departureBars", unfollowed := true, recurses := true, plainKeys := false, apart := false, narrowed := true }
def DepartureBarsUptoSaid : Prop := departureBarsUptoRow.holds Tryz.pinned (OpenSpec.upto departureBarsSpec)

/-- 'baggagelaw32.DepartureClears', WHERE WHAT IT READS IS OF BULK AT MOST 1048576: true; the input reads as it did. -/
def departureClearsUptoRow : OpenClaim := { program := "ytjhoidgpecgfoaagreat", sum := "e19a32cc3b77324aef4c6b87e69d64b7ba1a6f1fa6eb1f59163bf6692783e346", func := "baggage/baggagelaw32.DepartureClears", spec := "departureClears", unfollowed := true, recurses := true, plainKeys := false, apart := false, narrowed := true }
def DepartureClearsUptoSaid : Prop := departureClearsUptoRow.holds Tryz.pinned (OpenSpec.upto departureClearsSpec)

/-- 'baggagelaw32.DepartureOffline', WHERE WHAT IT READS IS OF BULK AT MOST 1048576: true; the input reads as it did. -/
def departureOfflineUptoRow : OpenClaim := { program := "ytjhoidgpecgfoaagreat", sum := "e19a32cc3b77324aef4c6b87e69d64b7ba1a6f1fa6eb1f59163bf6692783e346", func := "baggage/baggagelaw32.DepartureOffline", spec := "departureOffline", unfollowed := true, recurses := true, plainKeys := false, apart := false, narrowed := true }
def DepartureOfflineUptoSaid : Prop := departureOfflineUptoRow.holds Tryz.pinned (OpenSpec.upto departureOfflineSpec)

end Rows
end Go.Proofs.YtjhoidgpecgfoaaGreat
