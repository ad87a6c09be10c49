/-
  NARROWER THAN 'FOR EVERY INPUT', by the rows' own cells (each row's printed sentence says how): ControlDecides: laid · ControlSafe: laid · ControlRight: laid · ControlDelivers: laid.
  DERIVED. THE GIVEN ROWS OF THIS SEAT. 4 by the template 'for every input the law returns true; each argument reads behind the call as it read before'; 0 by the template 'total and deterministic' (their statements: YtabadacjbkhmkaaGreatDoorTotals.lean).
  GIVEN WITH THE SEED: the statements are not yours to turn. If you find one false, say at which input.
  Laid BY PROGRAM, IN A SANDBOX (cutbox-rows.mjs): the forced cells as the released guide's own fill.sh prints them over the translation d3f408ca5810145d… (all of the seat's roots in one cut). By AI agents, Wed Nov 11 2026. No macro, syntax, notation, axiom, sorry.
-/
import Derived.Test.YtabadacjbkhmkaaGreatDoorChecked
import GoSem.Claim
import GoSem.ClaimJoined
import GoSem.ClaimMapViews
import Derived.JoinedTies
import Derived.KernelRfl
namespace Go.Proofs.YtabadacjbkhmkaaGreatDoor
/- THE CELL 'sum', in the pinned program and in every row, IS THE sha256 OF THE DUMP (.gsa) THAT YtabadacjbkhmkaaGreatDoorProg.lean LOADS. Nothing in Lean hashes anything: it is a label: what it is worth is what the hold of that sum in a sandbox is worth. -/
noncomputable def Tryz.pinned : Pinned := { name := "ytabadacjbkhmkaagreatdoor", sum := "d3f408ca5810145df337166cd2906dbcd99f595bb9b41a02b84d0f2f3c3abf7e", checked := Tryz.checked }
namespace Rows
def none {H : Type} : Left H := { results := [], args := [] }

/- WHAT THE LISTED PACKAGE-LEVEL VARIABLES READ AS WHEN THE CALL BEGINS. Each datum BY PROGRAM (the guide's laid-datum.mjs) off the statement by which the dump's own 'gosem.cut.vars' lays the variable. In a bare row this is a premise. The card (YtabadacjbkhmkaaGreatDoorCards.lean) ties it to the program's text. -/
def laid_baggage_baggageref07_words {H : Type} : DataW H := .slice [.lit (.string []), .lit (.string [101, 110, 116, 114, 121]), .lit (.string [98, 101, 108, 116]), .lit (.string [115, 99, 114, 101, 101, 110]), .lit (.string [100, 105, 118, 101, 114, 116, 101, 114]), .lit (.string [108, 111, 111, 112]), .lit (.string [103, 97, 116, 101]), .lit (.string [115, 116, 111, 114, 101]), .lit (.string [99, 104, 117, 116, 101]), .lit (.string [109, 97, 110, 117, 97, 108])] []

/-- 'baggagelaw14.ControlDecides': WHATEVER THE INPUT: true; the input reads as it did. -/
def controlDecidesSpec : ChangeSpec := { name := "controlDecides", fn := fun _ => fun
  | [d1, d2, d3, d4, d5] => { results := [.lit (.bool true)], args := [d1, d2, d3, d4, d5] }
  | _ => none }
def controlDecidesRow : OpenClaim := { program := "ytabadacjbkhmkaagreatdoor", sum := "d3f408ca5810145df337166cd2906dbcd99f595bb9b41a02b84d0f2f3c3abf7e", func := "baggage/baggagelaw14.ControlDecides", spec := "controlDecides", unfollowed := true, recurses := true, named := ["baggage/baggageref07.words"], apart := false, laid := [("baggage/baggageref07.words", laid_baggage_baggageref07_words)] }
def ControlDecidesSaid : Prop := controlDecidesRow.holds Tryz.pinned (OpenSpec.ofChange controlDecidesSpec)

/-- ITS FALSE NEIGHBOUR: 'it returns false'. Refute it at one input. -/
def controlDecidesWrong : ChangeSpec := { name := "controlDecides", fn := fun _ => fun
  | [d1, d2, d3, d4, d5] => { results := [.lit (.bool false)], args := [d1, d2, d3, d4, d5] }
  | _ => none }
def ControlDecidesWrongFalsely : Prop := controlDecidesRow.holds Tryz.pinned (OpenSpec.ofChange controlDecidesWrong)

/-- 'baggagelaw14.ControlSafe': WHATEVER THE INPUT: true; the input reads as it did. -/
def controlSafeSpec : ChangeSpec := { name := "controlSafe", fn := fun _ => fun
  | [d] => { results := [.lit (.bool true)], args := [d] }
  | _ => none }
def controlSafeRow : OpenClaim := { program := "ytabadacjbkhmkaagreatdoor", sum := "d3f408ca5810145df337166cd2906dbcd99f595bb9b41a02b84d0f2f3c3abf7e", func := "baggage/baggagelaw14.ControlSafe", spec := "controlSafe", unfollowed := true, recurses := true, named := ["baggage/baggageref07.words"], apart := false, laid := [("baggage/baggageref07.words", laid_baggage_baggageref07_words)] }
def ControlSafeSaid : Prop := controlSafeRow.holds Tryz.pinned (OpenSpec.ofChange controlSafeSpec)

/-- ITS FALSE NEIGHBOUR: 'it returns false'. Refute it at one input. -/
def controlSafeWrong : ChangeSpec := { name := "controlSafe", fn := fun _ => fun
  | [d] => { results := [.lit (.bool false)], args := [d] }
  | _ => none }
def ControlSafeWrongFalsely : Prop := controlSafeRow.holds Tryz.pinned (OpenSpec.ofChange controlSafeWrong)

/-- 'baggagelaw14.ControlRight': WHATEVER THE INPUT: true; the input reads as it did. -/
def controlRightSpec : ChangeSpec := { name := "controlRight", fn := fun _ => fun
  | [d] => { results := [.lit (.bool true)], args := [d] }
  | _ => none }
def controlRightRow : OpenClaim := { program := "ytabadacjbkhmkaagreatdoor", sum := "d3f408ca5810145df337166cd2906dbcd99f595bb9b41a02b84d0f2f3c3abf7e", func := "baggage/baggagelaw14.ControlRight", spec := "controlRight", unfollowed := true, recurses := true, named := ["baggage/baggageref07.words"], apart := false, laid := [("baggage/baggageref07.words", laid_baggage_baggageref07_words)] }
def ControlRightSaid : Prop := controlRightRow.holds Tryz.pinned (OpenSpec.ofChange controlRightSpec)

/-- ITS FALSE NEIGHBOUR: 'it returns false'. Refute it at one input. -/
def controlRightWrong : ChangeSpec := { name := "controlRight", fn := fun _ => fun
  | [d] => { results := [.lit (.bool false)], args := [d] }
  | _ => none }
def ControlRightWrongFalsely : Prop := controlRightRow.holds Tryz.pinned (OpenSpec.ofChange controlRightWrong)

/-- 'baggagelaw14.ControlDelivers': WHATEVER THE INPUT: true; the input reads as it did. -/
def controlDeliversSpec : ChangeSpec := { name := "controlDelivers", fn := fun _ => fun
  | [d] => { results := [.lit (.bool true)], args := [d] }
  | _ => none }
def controlDeliversRow : OpenClaim := { program := "ytabadacjbkhmkaagreatdoor", sum := "d3f408ca5810145df337166cd2906dbcd99f595bb9b41a02b84d0f2f3c3abf7e", func := "baggage/baggagelaw14.ControlDelivers", spec := "controlDelivers", unfollowed := true, recurses := true, named := ["baggage/baggageref07.words"], apart := false, laid := [("baggage/baggageref07.words", laid_baggage_baggageref07_words)] }
def ControlDeliversSaid : Prop := controlDeliversRow.holds Tryz.pinned (OpenSpec.ofChange controlDeliversSpec)

/-- ITS FALSE NEIGHBOUR: 'it returns false'. Refute it at one input. -/
def controlDeliversWrong : ChangeSpec := { name := "controlDelivers", fn := fun _ => fun
  | [d] => { results := [.lit (.bool false)], args := [d] }
  | _ => none }
def ControlDeliversWrongFalsely : Prop := controlDeliversRow.holds Tryz.pinned (OpenSpec.ofChange controlDeliversWrong)

/- THE SECOND FORM. 'bulk': how many values and letters a reading holds, each counted each time it is reached (what is shared counts as often as it is met; a slice's spare places count too). A statement '..UptoSaid' is the law's where the arguments, and the package variables that the reading takes, are together of bulk at most 1048576: NARROWER than '..Said'. Prove '..Said' where nothing that the law and all that it calls make is longer than what came in: it says more and counts as full. Else prove '..UptoSaid'. A law counts once. -/
mutual
def uptoBulk {H : Type} : DataW H → Nat
  | .lit (.string bytes) => bytes.length + 1
  | .lit _ => 1
  | .nil => 1
  | .ptr d => uptoBulk d + 1
  | .slice elems spare => uptoBulkAll elems + uptoBulkAll spare + 1
  | .agg parts => uptoBulkAll parts + 1
  | .iface _ d => uptoBulk d + 1
  | .map entries => uptoBulkEntries entries + 1
  | .held _ => 1
def uptoBulkAll {H : Type} : List (DataW H) → Nat
  | [] => 0
  | d :: r => uptoBulk d + uptoBulkAll r
def uptoBulkEntries {H : Type} : List (Lit × DataW H) → Nat
  | [] => 0
  | x :: r => uptoBulkEntry x + uptoBulkEntries r
def uptoBulkEntry {H : Type} : Lit × DataW H → Nat
  | (.string bytes, d) => bytes.length + uptoBulk d + 1
  | (_, d) => uptoBulk d + 1
 end
def uptoSmall : (H : Type) → List (DataW H) → Bool := fun _ ds => decide (uptoBulkAll ds ≤ 1048576)
def OpenSpec.upto (s : _root_.Go.ChangeSpec) : _root_.Go.OpenSpec := { _root_.Go.OpenSpec.ofChange s with cond := some uptoSmall }

/-- 'baggagelaw14.ControlDecides', WHERE WHAT IT READS IS OF BULK AT MOST 1048576: true; the input reads as it did. -/
def controlDecidesUptoRow : OpenClaim := { program := "ytabadacjbkhmkaagreatdoor", sum := "d3f408ca5810145df337166cd2906dbcd99f595bb9b41a02b84d0f2f3c3abf7e", func := "baggage/baggagelaw14.ControlDecides", spec := "controlDecides", unfollowed := true, recurses := true, named := ["baggage/baggageref07.words"], apart := false, laid := [("baggage/baggageref07.words", laid_baggage_baggageref07_words)], narrowed := true }
def ControlDecidesUptoSaid : Prop := controlDecidesUptoRow.holds Tryz.pinned (OpenSpec.upto controlDecidesSpec)

/-- 'baggagelaw14.ControlSafe', WHERE WHAT IT READS IS OF BULK AT MOST 1048576: true; the input reads as it did. -/
def controlSafeUptoRow : OpenClaim := { program := "ytabadacjbkhmkaagreatdoor", sum := "d3f408ca5810145df337166cd2906dbcd99f595bb9b41a02b84d0f2f3c3abf7e", func := "baggage/baggagelaw14.ControlSafe", spec := "controlSafe", unfollowed := true, recurses := true, named := ["baggage/baggageref07.words"], apart := false, laid := [("baggage/baggageref07.words", laid_baggage_baggageref07_words)], narrowed := true }
def ControlSafeUptoSaid : Prop := controlSafeUptoRow.holds Tryz.pinned (OpenSpec.upto controlSafeSpec)

/-- 'baggagelaw14.ControlRight', WHERE WHAT IT READS IS OF BULK AT MOST 1048576: true; the input reads as it did. -/
def controlRightUptoRow : OpenClaim := { program := "ytabadacjbkhmkaagreatdoor", sum := "d3f408ca5810145df337166cd2906dbcd99f595bb9b41a02b84d0f2f3c3abf7e", func := "baggage/baggagelaw14.ControlRight", spec := "controlRight", unfollowed := true, recurses := true, named := ["baggage/baggageref07.words"], apart := false, laid := [("baggage/baggageref07.words", laid_baggage_baggageref07_words)], narrowed := true }
def ControlRightUptoSaid : Prop := controlRightUptoRow.holds Tryz.pinned (OpenSpec.upto controlRightSpec)

/-- 'baggagelaw14.ControlDelivers', WHERE WHAT IT READS IS OF BULK AT MOST 1048576: true; the input reads as it did. -/
def controlDeliversUptoRow : OpenClaim := { program := "ytabadacjbkhmkaagreatdoor", sum := "d3f408ca5810145df337166cd2906dbcd99f595bb9b41a02b84d0f2f3c3abf7e", func := "baggage/baggagelaw14.ControlDelivers", spec := "controlDelivers", unfollowed := true, recurses := true, named := ["baggage/baggageref07.words"], apart := false, laid := [("baggage/baggageref07.words", laid_baggage_baggageref07_words)], narrowed := true }
def ControlDeliversUptoSaid : Prop := controlDeliversUptoRow.holds Tryz.pinned (OpenSpec.upto controlDeliversSpec)

end Rows
end Go.Proofs.YtabadacjbkhmkaaGreatDoor
