/-
  DERIVED. GIVEN WITH THE SEED: THE CARDS: each row of YtpccaodkgboefaaDoorRows.lean that lists a variable, with what it lists TIED to the program's text (the seventh form; the later family's looks); each row that meets fmt, with fmt's text TOLD by the authors' own Lean function (tested against real Go, not proved from fmt's source: count such statements apart). THE CARD IS WHAT COUNTS. Prove the row's statement (the work); the ties are given (YtpccaodkgboefaaDoorTie.lean); close each card by the builder's one call (the guide's Derived/Test/ToyasCard.lean, 'card_holds'). Laid BY PROGRAM, IN A SANDBOX (cutbox-door.mjs). By AI agents, Wed Nov 11 2026. No macro, syntax, notation, axiom, sorry.
-/
import Derived.Test.YtpccaodkgboefaaDoorRows
import GoSem.ClaimSeven
namespace Go.Proofs.YtpccaodkgboefaaDoor
namespace Rows

/-- THE TIED CARD OF 'scrivenerlaw17.MessageBack'. -/
def messageBackCard : Claim7 := { stood := { row := messageBackRow, standIns := [], harness := (true, "3f700b4aeb850176ae0b25ff8b382e3f751dcc545f52f25283ff6405e717c8c4"), looks := true }, kinds := [], alts := [], laidByText := true, laidKinds := [.handle], laidTests := true, laidLooks := .later }
def MessageBackCardSaid : Prop := Claim7.holds Tryd.pinned (.plain (OpenSpec.ofChange messageBackSpec)) messageBackCard

/-- THE TIED CARD OF 'scrivenerlaw17.MessageThere'. -/
def messageThereCard : Claim7 := { stood := { row := messageThereRow, standIns := [], harness := (true, "3f700b4aeb850176ae0b25ff8b382e3f751dcc545f52f25283ff6405e717c8c4"), looks := true }, kinds := [], alts := [], laidByText := true, laidKinds := [.handle], laidTests := true, laidLooks := .later }
def MessageThereCardSaid : Prop := Claim7.holds Tryd.pinned (.plain (OpenSpec.ofChange messageThereSpec)) messageThereCard

/-- THE TIED CARD OF 'scrivenerlaw17.MessageStrict'. -/
def messageStrictCard : Claim7 := { stood := { row := messageStrictRow, standIns := [], harness := (true, "3f700b4aeb850176ae0b25ff8b382e3f751dcc545f52f25283ff6405e717c8c4"), looks := true }, kinds := [], alts := [], laidByText := true, laidKinds := [.handle], laidTests := true, laidLooks := .later }
def MessageStrictCardSaid : Prop := Claim7.holds Tryd.pinned (.plain (OpenSpec.ofChange messageStrictSpec)) messageStrictCard

/-- THE SECOND FORM's CARD OF 'scrivenerlaw17.MessageBack'. -/
def messageBackUptoCard : Claim7 := { stood := { row := messageBackUptoRow, standIns := [], harness := (true, "3f700b4aeb850176ae0b25ff8b382e3f751dcc545f52f25283ff6405e717c8c4"), looks := true }, kinds := [], alts := [], laidByText := true, laidKinds := [.handle], laidTests := true, laidLooks := .later }
def MessageBackUptoCardSaid : Prop := Claim7.holds Tryd.pinned (.plain (OpenSpec.upto messageBackSpec)) messageBackUptoCard

/-- THE SECOND FORM's CARD OF 'scrivenerlaw17.MessageThere'. -/
def messageThereUptoCard : Claim7 := { stood := { row := messageThereUptoRow, standIns := [], harness := (true, "3f700b4aeb850176ae0b25ff8b382e3f751dcc545f52f25283ff6405e717c8c4"), looks := true }, kinds := [], alts := [], laidByText := true, laidKinds := [.handle], laidTests := true, laidLooks := .later }
def MessageThereUptoCardSaid : Prop := Claim7.holds Tryd.pinned (.plain (OpenSpec.upto messageThereSpec)) messageThereUptoCard

/-- THE SECOND FORM's CARD OF 'scrivenerlaw17.MessageStrict'. -/
def messageStrictUptoCard : Claim7 := { stood := { row := messageStrictUptoRow, standIns := [], harness := (true, "3f700b4aeb850176ae0b25ff8b382e3f751dcc545f52f25283ff6405e717c8c4"), looks := true }, kinds := [], alts := [], laidByText := true, laidKinds := [.handle], laidTests := true, laidLooks := .later }
def MessageStrictUptoCardSaid : Prop := Claim7.holds Tryd.pinned (.plain (OpenSpec.upto messageStrictSpec)) messageStrictUptoCard
end Rows
end Go.Proofs.YtpccaodkgboefaaDoor
