/-
  DERIVED. GIVEN WITH THE SEED: THE CARDS: each row of YtfmoagdhajfngaaDoorRows.lean that lists a variable, with what it lists TIED to the program's text (the seventh form; the later family's looks); each row that meets fmt, with fmt's text TOLD by the authors' own Lean function (tested against real Go, not proved from fmt's source: count such statements apart). THE CARD IS WHAT COUNTS. Prove the row's statement (the work); the ties are given (YtfmoagdhajfngaaDoorTie.lean); close each card by the builder's one call (the guide's Derived/Test/ToyasCard.lean, 'card_holds'). Laid BY PROGRAM, IN A SANDBOX (cutbox-door.mjs). By AI agents, Wed Nov 11 2026. No macro, syntax, notation, axiom, sorry.
-/
import Derived.Test.YtfmoagdhajfngaaDoorRows
import GoSem.ClaimSeven
namespace Go.Proofs.YtfmoagdhajfngaaDoor
namespace Rows

/-- THE TIED CARD OF 'cassonelaw09.StateNext'. -/
def stateNextCard : Claim7 := { stood := { row := stateNextRow, standIns := [], harness := (true, "152f257486d8d8eebdc877ca5ad7a0581bdb8397b7c19b5ca97d40ca5ba38ab3"), looks := false }, kinds := [], alts := [], laidByText := true, laidKinds := [.data], laidTests := true, laidLooks := .later }
def StateNextCardSaid : Prop := Claim7.holds Tryd.pinned (.plain (OpenSpec.ofChange stateNextSpec)) stateNextCard

/-- THE TIED CARD OF 'cassonelaw09.StateSlots'. -/
def stateSlotsCard : Claim7 := { stood := { row := stateSlotsRow, standIns := [], harness := (true, "152f257486d8d8eebdc877ca5ad7a0581bdb8397b7c19b5ca97d40ca5ba38ab3"), looks := false }, kinds := [], alts := [], laidByText := true, laidKinds := [.data], laidTests := true, laidLooks := .later }
def StateSlotsCardSaid : Prop := Claim7.holds Tryd.pinned (.plain (OpenSpec.ofChange stateSlotsSpec)) stateSlotsCard

/-- THE SECOND FORM's CARD OF 'cassonelaw09.StateNext'. -/
def stateNextUptoCard : Claim7 := { stood := { row := stateNextUptoRow, standIns := [], harness := (true, "152f257486d8d8eebdc877ca5ad7a0581bdb8397b7c19b5ca97d40ca5ba38ab3"), looks := false }, kinds := [], alts := [], laidByText := true, laidKinds := [.data], laidTests := true, laidLooks := .later }
def StateNextUptoCardSaid : Prop := Claim7.holds Tryd.pinned (.plain (OpenSpec.upto stateNextSpec)) stateNextUptoCard

/-- THE SECOND FORM's CARD OF 'cassonelaw09.StateSlots'. -/
def stateSlotsUptoCard : Claim7 := { stood := { row := stateSlotsUptoRow, standIns := [], harness := (true, "152f257486d8d8eebdc877ca5ad7a0581bdb8397b7c19b5ca97d40ca5ba38ab3"), looks := false }, kinds := [], alts := [], laidByText := true, laidKinds := [.data], laidTests := true, laidLooks := .later }
def StateSlotsUptoCardSaid : Prop := Claim7.holds Tryd.pinned (.plain (OpenSpec.upto stateSlotsSpec)) stateSlotsUptoCard
end Rows
end Go.Proofs.YtfmoagdhajfngaaDoor
