/-
  No cell of these rows narrows 'for every input' (looked for: loops, veiled, ifaces, maps, wideKeys, modest, calm, conditions, laid).
  DERIVED. THE GIVEN ROWS OF THIS SEAT. 6 by the template 'for every input the law returns true; each argument reads behind the call as it read before'; 0 by the template 'total and deterministic' (their statements: YtdmgmdppejopcaaTotals.lean).
  GIVEN WITH THE SEED: the statements are not yours to turn. If you find one false, say at which input.
  Laid BY PROGRAM, IN A SANDBOX (cutbox-rows.mjs): the forced cells as the released guide's own fill.sh prints them over the translation 099c50802f327d75… (all of the seat's roots in one cut). By AI agents, Wed Nov 11 2026. No macro, syntax, notation, axiom, sorry.
-/
import Derived.Test.YtdmgmdppejopcaaChecked
import GoSem.Claim
import GoSem.ClaimJoined
import GoSem.ClaimMapViews
import Derived.JoinedTies
import Derived.KernelRfl
namespace Go.Proofs.Ytdmgmdppejopcaa
/- THE CELL 'sum', in the pinned program and in every row, IS THE sha256 OF THE DUMP (.gsa) THAT YtdmgmdppejopcaaProg.lean LOADS. Nothing in Lean hashes anything: it is a label: what it is worth is what the hold of that sum in a sandbox is worth. -/
noncomputable def Try.pinned : Pinned := { name := "ytdmgmdppejopcaa", sum := "099c50802f327d75fb942e5fba064ee4b81213fcb641df69eef5bbca4a43058e", checked := Try.checked }
namespace Rows
def none {H : Type} : Left H := { results := [], args := [] }

/-- 'baggagelaw21.MakeupPeaks': WHATEVER THE INPUT: true; the input reads as it did. -/
def makeupPeaksSpec : ChangeSpec := { name := "makeupPeaks", fn := fun _ => fun
  | [d1, d2, d3] => { results := [.lit (.bool true)], args := [d1, d2, d3] }
  | _ => none }
def makeupPeaksRow : OpenClaim := { program := "ytdmgmdppejopcaa", sum := "099c50802f327d75fb942e5fba064ee4b81213fcb641df69eef5bbca4a43058e", func := "baggage/baggagelaw21.MakeupPeaks", spec := "makeupPeaks", unfollowed := true, recurses := true, apart := false }
def MakeupPeaksSaid : Prop := makeupPeaksRow.holds Try.pinned (OpenSpec.ofChange makeupPeaksSpec)

/-- ITS FALSE NEIGHBOUR: 'it returns false'. Refute it at one input. -/
def makeupPeaksWrong : ChangeSpec := { name := "makeupPeaks", fn := fun _ => fun
  | [d1, d2, d3] => { results := [.lit (.bool false)], args := [d1, d2, d3] }
  | _ => none }
def MakeupPeaksWrongFalsely : Prop := makeupPeaksRow.holds Try.pinned (OpenSpec.ofChange makeupPeaksWrong)

/-- 'baggagelaw21.MakeupFewest': WHATEVER THE INPUT: true; the input reads as it did. -/
def makeupFewestSpec : ChangeSpec := { name := "makeupFewest", fn := fun _ => fun
  | [d] => { results := [.lit (.bool true)], args := [d] }
  | _ => none }
def makeupFewestRow : OpenClaim := { program := "ytdmgmdppejopcaa", sum := "099c50802f327d75fb942e5fba064ee4b81213fcb641df69eef5bbca4a43058e", func := "baggage/baggagelaw21.MakeupFewest", spec := "makeupFewest", unfollowed := true, recurses := true, apart := false }
def MakeupFewestSaid : Prop := makeupFewestRow.holds Try.pinned (OpenSpec.ofChange makeupFewestSpec)

/-- ITS FALSE NEIGHBOUR: 'it returns false'. Refute it at one input. -/
def makeupFewestWrong : ChangeSpec := { name := "makeupFewest", fn := fun _ => fun
  | [d] => { results := [.lit (.bool false)], args := [d] }
  | _ => none }
def MakeupFewestWrongFalsely : Prop := makeupFewestRow.holds Try.pinned (OpenSpec.ofChange makeupFewestWrong)

/-- 'baggagelaw21.MakeupGrows': WHATEVER THE INPUT: true; the input reads as it did. -/
def makeupGrowsSpec : ChangeSpec := { name := "makeupGrows", fn := fun _ => fun
  | [d1, d2] => { results := [.lit (.bool true)], args := [d1, d2] }
  | _ => none }
def makeupGrowsRow : OpenClaim := { program := "ytdmgmdppejopcaa", sum := "099c50802f327d75fb942e5fba064ee4b81213fcb641df69eef5bbca4a43058e", func := "baggage/baggagelaw21.MakeupGrows", spec := "makeupGrows", unfollowed := true, recurses := true, apart := false }
def MakeupGrowsSaid : Prop := makeupGrowsRow.holds Try.pinned (OpenSpec.ofChange makeupGrowsSpec)

/-- ITS FALSE NEIGHBOUR: 'it returns false'. Refute it at one input. -/
def makeupGrowsWrong : ChangeSpec := { name := "makeupGrows", fn := fun _ => fun
  | [d1, d2] => { results := [.lit (.bool false)], args := [d1, d2] }
  | _ => none }
def MakeupGrowsWrongFalsely : Prop := makeupGrowsRow.holds Try.pinned (OpenSpec.ofChange makeupGrowsWrong)

/-- 'baggagelaw21.MakeupFinds': WHATEVER THE INPUT: true; the input reads as it did. -/
def makeupFindsSpec : ChangeSpec := { name := "makeupFinds", fn := fun _ => fun
  | [d1, d2, d3] => { results := [.lit (.bool true)], args := [d1, d2, d3] }
  | _ => none }
def makeupFindsRow : OpenClaim := { program := "ytdmgmdppejopcaa", sum := "099c50802f327d75fb942e5fba064ee4b81213fcb641df69eef5bbca4a43058e", func := "baggage/baggagelaw21.MakeupFinds", spec := "makeupFinds", unfollowed := true, recurses := true, apart := false }
def MakeupFindsSaid : Prop := makeupFindsRow.holds Try.pinned (OpenSpec.ofChange makeupFindsSpec)

/-- ITS FALSE NEIGHBOUR: 'it returns false'. Refute it at one input. -/
def makeupFindsWrong : ChangeSpec := { name := "makeupFinds", fn := fun _ => fun
  | [d1, d2, d3] => { results := [.lit (.bool false)], args := [d1, d2, d3] }
  | _ => none }
def MakeupFindsWrongFalsely : Prop := makeupFindsRow.holds Try.pinned (OpenSpec.ofChange makeupFindsWrong)

/-- 'baggagelaw21.MakeupSound': WHATEVER THE INPUT: true; the input reads as it did. -/
def makeupSoundSpec : ChangeSpec := { name := "makeupSound", fn := fun _ => fun
  | [d] => { results := [.lit (.bool true)], args := [d] }
  | _ => none }
def makeupSoundRow : OpenClaim := { program := "ytdmgmdppejopcaa", sum := "099c50802f327d75fb942e5fba064ee4b81213fcb641df69eef5bbca4a43058e", func := "baggage/baggagelaw21.MakeupSound", spec := "makeupSound", unfollowed := true, recurses := true, apart := false }
def MakeupSoundSaid : Prop := makeupSoundRow.holds Try.pinned (OpenSpec.ofChange makeupSoundSpec)

/-- ITS FALSE NEIGHBOUR: 'it returns false'. Refute it at one input. -/
def makeupSoundWrong : ChangeSpec := { name := "makeupSound", fn := fun _ => fun
  | [d] => { results := [.lit (.bool false)], args := [d] }
  | _ => none }
def MakeupSoundWrongFalsely : Prop := makeupSoundRow.holds Try.pinned (OpenSpec.ofChange makeupSoundWrong)

/-- 'baggagelaw21.MakeupExclusive': WHATEVER THE INPUT: true; the input reads as it did. -/
def makeupExclusiveSpec : ChangeSpec := { name := "makeupExclusive", fn := fun _ => fun
  | [d1, d2, d3, d4] => { results := [.lit (.bool true)], args := [d1, d2, d3, d4] }
  | _ => none }
def makeupExclusiveRow : OpenClaim := { program := "ytdmgmdppejopcaa", sum := "099c50802f327d75fb942e5fba064ee4b81213fcb641df69eef5bbca4a43058e", func := "baggage/baggagelaw21.MakeupExclusive", spec := "makeupExclusive", unfollowed := true, recurses := true, apart := false }
def MakeupExclusiveSaid : Prop := makeupExclusiveRow.holds Try.pinned (OpenSpec.ofChange makeupExclusiveSpec)

/-- ITS FALSE NEIGHBOUR: 'it returns false'. Refute it at one input. -/
def makeupExclusiveWrong : ChangeSpec := { name := "makeupExclusive", fn := fun _ => fun
  | [d1, d2, d3, d4] => { results := [.lit (.bool false)], args := [d1, d2, d3, d4] }
  | _ => none }
def MakeupExclusiveWrongFalsely : Prop := makeupExclusiveRow.holds Try.pinned (OpenSpec.ofChange makeupExclusiveWrong)

/- THE SECOND FORM. 'bulk': how many values and letters a reading holds, each counted each time it is reached (what is shared counts as often as it is met; a slice's spare places count too). A statement '..UptoSaid' is the law's where the arguments, and the package variables that the reading takes, are together of bulk at most 1048576: NARROWER than '..Said'. Prove '..Said' where nothing that the law and all that it calls make is longer than what came in: it says more and counts as full. Else prove '..UptoSaid'. A law counts once. -/
mutual
def uptoBulk {H : Type} : DataW H → Nat
  | .lit (.string bytes) => bytes.length + 1
  | .lit _ => 1
  | .nil => 1
  | .ptr d => uptoBulk d + 1
  | .slice elems spare => uptoBulkAll elems + uptoBulkAll spare + 1
  | .agg parts => uptoBulkAll parts + 1
  | .iface _ d => uptoBulk d + 1
  | .map entries => uptoBulkEntries entries + 1
  | .held _ => 1
def uptoBulkAll {H : Type} : List (DataW H) → Nat
  | [] => 0
  | d :: r => uptoBulk d + uptoBulkAll r
def uptoBulkEntries {H : Type} : List (Lit × DataW H) → Nat
  | [] => 0
  | x :: r => uptoBulkEntry x + uptoBulkEntries r
def uptoBulkEntry {H : Type} : Lit × DataW H → Nat
  | (.string bytes, d) => bytes.length + uptoBulk d + 1
  | (_, d) => uptoBulk d + 1
 end
def uptoSmall : (H : Type) → List (DataW H) → Bool := fun _ ds => decide (uptoBulkAll ds ≤ 1048576)
def OpenSpec.upto (s : _root_.Go.ChangeSpec) : _root_.Go.OpenSpec := { _root_.Go.OpenSpec.ofChange s with cond := some uptoSmall }

/-- 'baggagelaw21.MakeupPeaks', WHERE WHAT IT READS IS OF BULK AT MOST 1048576: true; the input reads as it did. -/
def makeupPeaksUptoRow : OpenClaim := { program := "ytdmgmdppejopcaa", sum := "099c50802f327d75fb942e5fba064ee4b81213fcb641df69eef5bbca4a43058e", func := "baggage/baggagelaw21.MakeupPeaks", spec := "makeupPeaks", unfollowed := true, recurses := true, apart := false, narrowed := true }
def MakeupPeaksUptoSaid : Prop := makeupPeaksUptoRow.holds Try.pinned (OpenSpec.upto makeupPeaksSpec)

/-- 'baggagelaw21.MakeupFewest', WHERE WHAT IT READS IS OF BULK AT MOST 1048576: true; the input reads as it did. -/
def makeupFewestUptoRow : OpenClaim := { program := "ytdmgmdppejopcaa", sum := "099c50802f327d75fb942e5fba064ee4b81213fcb641df69eef5bbca4a43058e", func := "baggage/baggagelaw21.MakeupFewest", spec := "makeupFewest", unfollowed := true, recurses := true, apart := false, narrowed := true }
def MakeupFewestUptoSaid : Prop := makeupFewestUptoRow.holds Try.pinned (OpenSpec.upto makeupFewestSpec)

/-- 'baggagelaw21.MakeupGrows', WHERE WHAT IT READS IS OF BULK AT MOST 1048576: true; the input reads as it did. -/
def makeupGrowsUptoRow : OpenClaim := { program := "ytdmgmdppejopcaa", sum := "099c50802f327d75fb942e5fba064ee4b81213fcb641df69eef5bbca4a43058e", func := "baggage/baggagelaw21.MakeupGrows", spec := "makeupGrows", unfollowed := true, recurses := true, apart := false, narrowed := true }
def MakeupGrowsUptoSaid : Prop := makeupGrowsUptoRow.holds Try.pinned (OpenSpec.upto makeupGrowsSpec)

/-- 'baggagelaw21.MakeupFinds', WHERE WHAT IT READS IS OF BULK AT MOST 1048576: true; the input reads as it did. -/
def makeupFindsUptoRow : OpenClaim := { program := "ytdmgmdppejopcaa", sum := "099c50802f327d75fb942e5fba064ee4b81213fcb641df69eef5bbca4a43058e", func := "baggage/baggagelaw21.MakeupFinds", spec := "makeupFinds", unfollowed := true, recurses := true, apart := false, narrowed := true }
def MakeupFindsUptoSaid : Prop := makeupFindsUptoRow.holds Try.pinned (OpenSpec.upto makeupFindsSpec)

/-- 'baggagelaw21.MakeupSound', WHERE WHAT IT READS IS OF BULK AT MOST 1048576: true; the input reads as it did. -/
def makeupSoundUptoRow : OpenClaim := { program := "ytdmgmdppejopcaa", sum := "099c50802f327d75fb942e5fba064ee4b81213fcb641df69eef5bbca4a43058e", func := "baggage/baggagelaw21.MakeupSound", spec := "makeupSound", unfollowed := true, recurses := true, apart := false, narrowed := true }
def MakeupSoundUptoSaid : Prop := makeupSoundUptoRow.holds Try.pinned (OpenSpec.upto makeupSoundSpec)

/-- 'baggagelaw21.MakeupExclusive', WHERE WHAT IT READS IS OF BULK AT MOST 1048576: true; the input reads as it did. -/
def makeupExclusiveUptoRow : OpenClaim := { program := "ytdmgmdppejopcaa", sum := "099c50802f327d75fb942e5fba064ee4b81213fcb641df69eef5bbca4a43058e", func := "baggage/baggagelaw21.MakeupExclusive", spec := "makeupExclusive", unfollowed := true, recurses := true, apart := false, narrowed := true }
def MakeupExclusiveUptoSaid : Prop := makeupExclusiveUptoRow.holds Try.pinned (OpenSpec.upto makeupExclusiveSpec)

end Rows
end Go.Proofs.Ytdmgmdppejopcaa
