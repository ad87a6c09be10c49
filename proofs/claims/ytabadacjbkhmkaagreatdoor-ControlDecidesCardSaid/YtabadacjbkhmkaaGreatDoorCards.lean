/-
  DERIVED. GIVEN WITH THE SEED: THE CARDS: each row of YtabadacjbkhmkaaGreatDoorRows.lean that lists a variable, with what it lists TIED to the program's text (the seventh form; the later family's looks); each row that meets fmt, with fmt's text TOLD by the authors' own Lean function (tested against real Go, not proved from fmt's source: count such statements apart). THE CARD IS WHAT COUNTS. Prove the row's statement (the work); the ties are given (YtabadacjbkhmkaaGreatDoorTie.lean); close each card by the builder's one call (the guide's Derived/Test/ToyasCard.lean, 'card_holds'). Laid BY PROGRAM, IN A SANDBOX (cutbox-door.mjs). By AI agents, Wed Nov 11 2026. No macro, syntax, notation, axiom, sorry.
-/
import Derived.Test.YtabadacjbkhmkaaGreatDoorRows
import GoSem.ClaimSeven
namespace Go.Proofs.YtabadacjbkhmkaaGreatDoor
namespace Rows

/-- THE TIED CARD OF 'baggagelaw14.ControlDecides'. -/
def controlDecidesCard : Claim7 := { stood := { row := controlDecidesRow, standIns := [], harness := (true, "06148c9e897e1426053424129b3d74939c9b5c5de843c9d092b4a3a091ad2ef3"), looks := false }, kinds := [], alts := [], laidByText := true, laidKinds := [.data], laidTests := true, laidLooks := .later }
def ControlDecidesCardSaid : Prop := Claim7.holds Tryz.pinned (.plain (OpenSpec.ofChange controlDecidesSpec)) controlDecidesCard

/-- THE TIED CARD OF 'baggagelaw14.ControlSafe'. -/
def controlSafeCard : Claim7 := { stood := { row := controlSafeRow, standIns := [], harness := (true, "06148c9e897e1426053424129b3d74939c9b5c5de843c9d092b4a3a091ad2ef3"), looks := false }, kinds := [], alts := [], laidByText := true, laidKinds := [.data], laidTests := true, laidLooks := .later }
def ControlSafeCardSaid : Prop := Claim7.holds Tryz.pinned (.plain (OpenSpec.ofChange controlSafeSpec)) controlSafeCard

/-- THE TIED CARD OF 'baggagelaw14.ControlRight'. -/
def controlRightCard : Claim7 := { stood := { row := controlRightRow, standIns := [], harness := (true, "06148c9e897e1426053424129b3d74939c9b5c5de843c9d092b4a3a091ad2ef3"), looks := false }, kinds := [], alts := [], laidByText := true, laidKinds := [.data], laidTests := true, laidLooks := .later }
def ControlRightCardSaid : Prop := Claim7.holds Tryz.pinned (.plain (OpenSpec.ofChange controlRightSpec)) controlRightCard

/-- THE TIED CARD OF 'baggagelaw14.ControlDelivers'. -/
def controlDeliversCard : Claim7 := { stood := { row := controlDeliversRow, standIns := [], harness := (true, "06148c9e897e1426053424129b3d74939c9b5c5de843c9d092b4a3a091ad2ef3"), looks := false }, kinds := [], alts := [], laidByText := true, laidKinds := [.data], laidTests := true, laidLooks := .later }
def ControlDeliversCardSaid : Prop := Claim7.holds Tryz.pinned (.plain (OpenSpec.ofChange controlDeliversSpec)) controlDeliversCard

/-- THE SECOND FORM's CARD OF 'baggagelaw14.ControlDecides'. -/
def controlDecidesUptoCard : Claim7 := { stood := { row := controlDecidesUptoRow, standIns := [], harness := (true, "06148c9e897e1426053424129b3d74939c9b5c5de843c9d092b4a3a091ad2ef3"), looks := false }, kinds := [], alts := [], laidByText := true, laidKinds := [.data], laidTests := true, laidLooks := .later }
def ControlDecidesUptoCardSaid : Prop := Claim7.holds Tryz.pinned (.plain (OpenSpec.upto controlDecidesSpec)) controlDecidesUptoCard

/-- THE SECOND FORM's CARD OF 'baggagelaw14.ControlSafe'. -/
def controlSafeUptoCard : Claim7 := { stood := { row := controlSafeUptoRow, standIns := [], harness := (true, "06148c9e897e1426053424129b3d74939c9b5c5de843c9d092b4a3a091ad2ef3"), looks := false }, kinds := [], alts := [], laidByText := true, laidKinds := [.data], laidTests := true, laidLooks := .later }
def ControlSafeUptoCardSaid : Prop := Claim7.holds Tryz.pinned (.plain (OpenSpec.upto controlSafeSpec)) controlSafeUptoCard

/-- THE SECOND FORM's CARD OF 'baggagelaw14.ControlRight'. -/
def controlRightUptoCard : Claim7 := { stood := { row := controlRightUptoRow, standIns := [], harness := (true, "06148c9e897e1426053424129b3d74939c9b5c5de843c9d092b4a3a091ad2ef3"), looks := false }, kinds := [], alts := [], laidByText := true, laidKinds := [.data], laidTests := true, laidLooks := .later }
def ControlRightUptoCardSaid : Prop := Claim7.holds Tryz.pinned (.plain (OpenSpec.upto controlRightSpec)) controlRightUptoCard

/-- THE SECOND FORM's CARD OF 'baggagelaw14.ControlDelivers'. -/
def controlDeliversUptoCard : Claim7 := { stood := { row := controlDeliversUptoRow, standIns := [], harness := (true, "06148c9e897e1426053424129b3d74939c9b5c5de843c9d092b4a3a091ad2ef3"), looks := false }, kinds := [], alts := [], laidByText := true, laidKinds := [.data], laidTests := true, laidLooks := .later }
def ControlDeliversUptoCardSaid : Prop := Claim7.holds Tryz.pinned (.plain (OpenSpec.upto controlDeliversSpec)) controlDeliversUptoCard
end Rows
end Go.Proofs.YtabadacjbkhmkaaGreatDoor
