/-
  DERIVED. GIVEN WITH THE SEED: THE CARDS: each row of YtmflbchiapdhbaaGreatDoorRows.lean that lists a variable, with what it lists TIED to the program's text (the seventh form; the later family's looks); each row that meets fmt, with fmt's text TOLD by the authors' own Lean function (tested against real Go, not proved from fmt's source: count such statements apart). THE CARD IS WHAT COUNTS. Prove the row's statement (the work); the ties are given (YtmflbchiapdhbaaGreatDoorTie.lean); close each card by the builder's one call (the guide's Derived/Test/ToyasCard.lean, 'card_holds'). Laid BY PROGRAM, IN A SANDBOX (cutbox-door.mjs). By AI agents, Wed Nov 11 2026. No macro, syntax, notation, axiom, sorry.
-/
import Derived.Test.YtmflbchiapdhbaaGreatDoorRows
import GoSem.ClaimSeven
namespace Go.Proofs.YtmflbchiapdhbaaGreatDoor
namespace Rows

/-- THE TIED CARD OF 'scrivenerlaw24.TriePlays'. -/
def triePlaysCard : Claim7 := { stood := { row := triePlaysRow, standIns := [], harness := (true, "a8659675ae05b49d37d883e5a90a45372fe69e0d66882d8008385afbc0438ccf"), looks := true }, kinds := [], alts := [], laidByText := true, laidKinds := [.data, .data], laidTests := true, laidLooks := .later }
def TriePlaysCardSaid : Prop := Claim7.holds Tryz.pinned (.plain (OpenSpec.ofChange triePlaysSpec)) triePlaysCard

/-- THE SECOND FORM's CARD OF 'scrivenerlaw24.TriePlays'. -/
def triePlaysUptoCard : Claim7 := { stood := { row := triePlaysUptoRow, standIns := [], harness := (true, "a8659675ae05b49d37d883e5a90a45372fe69e0d66882d8008385afbc0438ccf"), looks := true }, kinds := [], alts := [], laidByText := true, laidKinds := [.data, .data], laidTests := true, laidLooks := .later }
def TriePlaysUptoCardSaid : Prop := Claim7.holds Tryz.pinned (.plain (OpenSpec.upto triePlaysSpec)) triePlaysUptoCard
end Rows
end Go.Proofs.YtmflbchiapdhbaaGreatDoor
