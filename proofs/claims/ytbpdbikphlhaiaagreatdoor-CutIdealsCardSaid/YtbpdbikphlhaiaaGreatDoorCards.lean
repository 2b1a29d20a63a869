/-
  DERIVED. GIVEN WITH THE SEED: THE CARDS: each row of YtbpdbikphlhaiaaGreatDoorRows.lean that lists a variable, with what it lists TIED to the program's text (the seventh form; the later family's looks); each row that meets fmt, with fmt's text TOLD by the authors' own Lean function (tested against real Go, not proved from fmt's source: count such statements apart). THE CARD IS WHAT COUNTS. Prove the row's statement (the work); the ties are given (YtbpdbikphlhaiaaGreatDoorTie.lean); close each card by the builder's one call (the guide's Derived/Test/ToyasCard.lean, 'card_holds'). Laid BY PROGRAM, IN A SANDBOX (cutbox-door.mjs). By AI agents, Wed Nov 11 2026. No macro, syntax, notation, axiom, sorry.
-/
import Derived.Test.YtbpdbikphlhaiaaGreatDoorRows
import GoSem.ClaimSeven
namespace Go.Proofs.YtbpdbikphlhaiaaGreatDoor
namespace Rows

/-- THE TIED CARD OF 'antecedelaw22.CutIdeals'. -/
def cutIdealsCard : Claim7 := { stood := { row := cutIdealsRow, standIns := [], harness := (true, "b057ff44b9757b48452af60e817c59c1053444ded4064b557bd6354b942e655b"), looks := false }, kinds := [], alts := [], laidByText := true, laidKinds := [.data], laidTests := true, laidLooks := .later }
def CutIdealsCardSaid : Prop := Claim7.holds Tryz.pinned (.plain (OpenSpec.ofChange cutIdealsSpec)) cutIdealsCard

/-- THE SECOND FORM's CARD OF 'antecedelaw22.CutIdeals'. -/
def cutIdealsUptoCard : Claim7 := { stood := { row := cutIdealsUptoRow, standIns := [], harness := (true, "b057ff44b9757b48452af60e817c59c1053444ded4064b557bd6354b942e655b"), looks := false }, kinds := [], alts := [], laidByText := true, laidKinds := [.data], laidTests := true, laidLooks := .later }
def CutIdealsUptoCardSaid : Prop := Claim7.holds Tryz.pinned (.plain (OpenSpec.upto cutIdealsSpec)) cutIdealsUptoCard
end Rows
end Go.Proofs.YtbpdbikphlhaiaaGreatDoor
