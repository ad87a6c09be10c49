/-
  DERIVED. GIVEN WITH THE SEED: THE CARDS: each row of YtjhoidgpecgfoaaDoorRows.lean that lists a variable, with what it lists TIED to the program's text (the seventh form; the later family's looks); each row that meets fmt, with fmt's text TOLD by the authors' own Lean function (tested against real Go, not proved from fmt's source: count such statements apart). THE CARD IS WHAT COUNTS. Prove the row's statement (the work); the ties are given (YtjhoidgpecgfoaaDoorTie.lean); close each card by the builder's one call (the guide's Derived/Test/ToyasCard.lean, 'card_holds'). Laid BY PROGRAM, IN A SANDBOX (cutbox-door.mjs). By AI agents, Wed Nov 11 2026. No macro, syntax, notation, axiom, sorry.
-/
import Derived.Test.YtjhoidgpecgfoaaDoorRows
import GoSem.ClaimSeven
namespace Go.Proofs.YtjhoidgpecgfoaaDoor
namespace Rows

/-- THE TIED CARD OF 'baggagelaw32.DepartureRulings'. -/
def departureRulingsCard : Claim7 := { stood := { row := departureRulingsRow, standIns := [], harness := (true, "e4250c12fd2d9a49f810e6e362a2804104a8eeb8eec05d8d37d31c673c51fce9"), looks := false }, kinds := [], alts := [], laidByText := true, laidKinds := [.data], laidTests := true, laidLooks := .later }
def DepartureRulingsCardSaid : Prop := Claim7.holds Tryd.pinned (.plain (OpenSpec.ofChange departureRulingsSpec)) departureRulingsCard

/-- THE SECOND FORM's CARD OF 'baggagelaw32.DepartureRulings'. -/
def departureRulingsUptoCard : Claim7 := { stood := { row := departureRulingsUptoRow, standIns := [], harness := (true, "e4250c12fd2d9a49f810e6e362a2804104a8eeb8eec05d8d37d31c673c51fce9"), looks := false }, kinds := [], alts := [], laidByText := true, laidKinds := [.data], laidTests := true, laidLooks := .later }
def DepartureRulingsUptoCardSaid : Prop := Claim7.holds Tryd.pinned (.plain (OpenSpec.upto departureRulingsSpec)) departureRulingsUptoCard
end Rows
end Go.Proofs.YtjhoidgpecgfoaaDoor
