/-
  DERIVED. GIVEN WITH THE SEED: THE CARDS: each row of YtpccaodkgboefaaGreatDoorRows.lean that lists a variable, with what it lists TIED to the program's text (the seventh form; the later family's looks); each row that meets fmt, with fmt's text TOLD by the authors' own Lean function (tested against real Go, not proved from fmt's source: count such statements apart). THE CARD IS WHAT COUNTS. Prove the row's statement (the work); the ties are given (YtpccaodkgboefaaGreatDoorTie.lean); close each card by the builder's one call (the guide's Derived/Test/ToyasCard.lean, 'card_holds'). Laid BY PROGRAM, IN A SANDBOX (cutbox-door.mjs). By AI agents, Wed Nov 11 2026. No macro, syntax, notation, axiom, sorry.
-/
import Derived.Test.YtpccaodkgboefaaGreatDoorRows
import GoSem.ClaimSeven
namespace Go.Proofs.YtpccaodkgboefaaGreatDoor
namespace Rows

/-- THE TIED CARD OF 'scrivenerlaw17.MessageEncodes'. -/
def messageEncodesCard : Claim7 := { stood := { row := messageEncodesRow, standIns := [], harness := (true, "91e4b02e42cb2c56b8fd5a56b7e1f429652c5b14e5650eed52bc9cb9b8d7a9e5"), looks := true }, kinds := [], alts := [], laidByText := true, laidKinds := [.handle], laidTests := true, laidLooks := .later }
def MessageEncodesCardSaid : Prop := Claim7.holds Tryz.pinned (.plain (OpenSpec.ofChange messageEncodesSpec)) messageEncodesCard

/-- THE TIED CARD OF 'scrivenerlaw17.MessageDecodes'. -/
def messageDecodesCard : Claim7 := { stood := { row := messageDecodesRow, standIns := [], harness := (true, "91e4b02e42cb2c56b8fd5a56b7e1f429652c5b14e5650eed52bc9cb9b8d7a9e5"), looks := true }, kinds := [], alts := [], laidByText := true, laidKinds := [.handle], laidTests := true, laidLooks := .later }
def MessageDecodesCardSaid : Prop := Claim7.holds Tryz.pinned (.plain (OpenSpec.ofChange messageDecodesSpec)) messageDecodesCard

/-- THE TIED CARD OF 'scrivenerlaw17.MessageReplies'. -/
def messageRepliesCard : Claim7 := { stood := { row := messageRepliesRow, standIns := [], harness := (true, "91e4b02e42cb2c56b8fd5a56b7e1f429652c5b14e5650eed52bc9cb9b8d7a9e5"), looks := true }, kinds := [], alts := [], laidByText := true, laidKinds := [.handle], laidTests := true, laidLooks := .later }
def MessageRepliesCardSaid : Prop := Claim7.holds Tryz.pinned (.plain (OpenSpec.ofChange messageRepliesSpec)) messageRepliesCard

/-- THE TIED CARD OF 'scrivenerlaw17.MessageAnswers'. -/
def messageAnswersCard : Claim7 := { stood := { row := messageAnswersRow, standIns := [], harness := (true, "91e4b02e42cb2c56b8fd5a56b7e1f429652c5b14e5650eed52bc9cb9b8d7a9e5"), looks := true }, kinds := [], alts := [], laidByText := true, laidKinds := [.handle], laidTests := true, laidLooks := .later }
def MessageAnswersCardSaid : Prop := Claim7.holds Tryz.pinned (.plain (OpenSpec.ofChange messageAnswersSpec)) messageAnswersCard

/-- THE SECOND FORM's CARD OF 'scrivenerlaw17.MessageEncodes'. -/
def messageEncodesUptoCard : Claim7 := { stood := { row := messageEncodesUptoRow, standIns := [], harness := (true, "91e4b02e42cb2c56b8fd5a56b7e1f429652c5b14e5650eed52bc9cb9b8d7a9e5"), looks := true }, kinds := [], alts := [], laidByText := true, laidKinds := [.handle], laidTests := true, laidLooks := .later }
def MessageEncodesUptoCardSaid : Prop := Claim7.holds Tryz.pinned (.plain (OpenSpec.upto messageEncodesSpec)) messageEncodesUptoCard

/-- THE SECOND FORM's CARD OF 'scrivenerlaw17.MessageDecodes'. -/
def messageDecodesUptoCard : Claim7 := { stood := { row := messageDecodesUptoRow, standIns := [], harness := (true, "91e4b02e42cb2c56b8fd5a56b7e1f429652c5b14e5650eed52bc9cb9b8d7a9e5"), looks := true }, kinds := [], alts := [], laidByText := true, laidKinds := [.handle], laidTests := true, laidLooks := .later }
def MessageDecodesUptoCardSaid : Prop := Claim7.holds Tryz.pinned (.plain (OpenSpec.upto messageDecodesSpec)) messageDecodesUptoCard

/-- THE SECOND FORM's CARD OF 'scrivenerlaw17.MessageReplies'. -/
def messageRepliesUptoCard : Claim7 := { stood := { row := messageRepliesUptoRow, standIns := [], harness := (true, "91e4b02e42cb2c56b8fd5a56b7e1f429652c5b14e5650eed52bc9cb9b8d7a9e5"), looks := true }, kinds := [], alts := [], laidByText := true, laidKinds := [.handle], laidTests := true, laidLooks := .later }
def MessageRepliesUptoCardSaid : Prop := Claim7.holds Tryz.pinned (.plain (OpenSpec.upto messageRepliesSpec)) messageRepliesUptoCard

/-- THE SECOND FORM's CARD OF 'scrivenerlaw17.MessageAnswers'. -/
def messageAnswersUptoCard : Claim7 := { stood := { row := messageAnswersUptoRow, standIns := [], harness := (true, "91e4b02e42cb2c56b8fd5a56b7e1f429652c5b14e5650eed52bc9cb9b8d7a9e5"), looks := true }, kinds := [], alts := [], laidByText := true, laidKinds := [.handle], laidTests := true, laidLooks := .later }
def MessageAnswersUptoCardSaid : Prop := Claim7.holds Tryz.pinned (.plain (OpenSpec.upto messageAnswersSpec)) messageAnswersUptoCard
end Rows
end Go.Proofs.YtpccaodkgboefaaGreatDoor
