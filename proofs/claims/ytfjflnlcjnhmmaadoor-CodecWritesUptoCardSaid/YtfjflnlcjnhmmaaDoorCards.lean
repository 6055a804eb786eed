/-
  DERIVED. GIVEN WITH THE SEED: THE CARDS: each row of YtfjflnlcjnhmmaaDoorRows.lean that lists a variable, with what it lists TIED to the program's text (the seventh form; the later family's looks); each row that meets fmt, with fmt's text TOLD by the authors' own Lean function (tested against real Go, not proved from fmt's source: count such statements apart). THE CARD IS WHAT COUNTS. Prove the row's statement (the work); the ties are given (YtfjflnlcjnhmmaaDoorTie.lean); close each card by the builder's one call (the guide's Derived/Test/ToyasCard.lean, 'card_holds'). Laid BY PROGRAM, IN A SANDBOX (cutbox-door.mjs). By AI agents, Wed Nov 11 2026. No macro, syntax, notation, axiom, sorry.
-/
import Derived.Test.YtfjflnlcjnhmmaaDoorRows
import GoSem.ClaimSeven
namespace Go.Proofs.YtfjflnlcjnhmmaaDoor
namespace Rows

/-- THE TIED CARD OF 'scrivenerlaw2.CodecFrames'. -/
def codecFramesCard : Claim7 := { stood := { row := codecFramesRow, standIns := [], harness := (true, "6f981e05d0a5f1fdee107663c9e7a6f406300f085e60f52256ed7f8df5e96ccd"), looks := true }, kinds := [], alts := [], laidByText := true, laidKinds := [.handle], laidTests := true, laidLooks := .later }
def CodecFramesCardSaid : Prop := Claim7.holds Tryd.pinned (.plain (OpenSpec.ofChange codecFramesSpec)) codecFramesCard

/-- THE TIED CARD OF 'scrivenerlaw2.CodecLong'. -/
def codecLongCard : Claim7 := { stood := { row := codecLongRow, standIns := [], harness := (true, "6f981e05d0a5f1fdee107663c9e7a6f406300f085e60f52256ed7f8df5e96ccd"), looks := true }, kinds := [], alts := [], laidByText := true, laidKinds := [.handle], laidTests := true, laidLooks := .later }
def CodecLongCardSaid : Prop := Claim7.holds Tryd.pinned (.plain (OpenSpec.ofChange codecLongSpec)) codecLongCard

/-- THE TIED CARD OF 'scrivenerlaw2.CodecRow'. -/
def codecRowCard : Claim7 := { stood := { row := codecRowRow, standIns := [], harness := (true, "6f981e05d0a5f1fdee107663c9e7a6f406300f085e60f52256ed7f8df5e96ccd"), looks := true }, kinds := [], alts := [], laidByText := true, laidKinds := [.handle], laidTests := true, laidLooks := .later }
def CodecRowCardSaid : Prop := Claim7.holds Tryd.pinned (.plain (OpenSpec.ofChange codecRowSpec)) codecRowCard

/-- THE TIED CARD OF 'scrivenerlaw2.CodecWrites'. -/
def codecWritesCard : Claim7 := { stood := { row := codecWritesRow, standIns := [], harness := (true, "6f981e05d0a5f1fdee107663c9e7a6f406300f085e60f52256ed7f8df5e96ccd"), looks := true }, kinds := [], alts := [], laidByText := true, laidKinds := [.handle], laidTests := true, laidLooks := .later }
def CodecWritesCardSaid : Prop := Claim7.holds Tryd.pinned (.plain (OpenSpec.ofChange codecWritesSpec)) codecWritesCard

/-- THE TIED CARD OF 'scrivenerlaw2.CodecAgain'. -/
def codecAgainCard : Claim7 := { stood := { row := codecAgainRow, standIns := [], harness := (true, "6f981e05d0a5f1fdee107663c9e7a6f406300f085e60f52256ed7f8df5e96ccd"), looks := true }, kinds := [], alts := [], laidByText := true, laidKinds := [.handle], laidTests := true, laidLooks := .later }
def CodecAgainCardSaid : Prop := Claim7.holds Tryd.pinned (.plain (OpenSpec.ofChange codecAgainSpec)) codecAgainCard

/-- THE SECOND FORM's CARD OF 'scrivenerlaw2.CodecFrames'. -/
def codecFramesUptoCard : Claim7 := { stood := { row := codecFramesUptoRow, standIns := [], harness := (true, "6f981e05d0a5f1fdee107663c9e7a6f406300f085e60f52256ed7f8df5e96ccd"), looks := true }, kinds := [], alts := [], laidByText := true, laidKinds := [.handle], laidTests := true, laidLooks := .later }
def CodecFramesUptoCardSaid : Prop := Claim7.holds Tryd.pinned (.plain (OpenSpec.upto codecFramesSpec)) codecFramesUptoCard

/-- THE SECOND FORM's CARD OF 'scrivenerlaw2.CodecLong'. -/
def codecLongUptoCard : Claim7 := { stood := { row := codecLongUptoRow, standIns := [], harness := (true, "6f981e05d0a5f1fdee107663c9e7a6f406300f085e60f52256ed7f8df5e96ccd"), looks := true }, kinds := [], alts := [], laidByText := true, laidKinds := [.handle], laidTests := true, laidLooks := .later }
def CodecLongUptoCardSaid : Prop := Claim7.holds Tryd.pinned (.plain (OpenSpec.upto codecLongSpec)) codecLongUptoCard

/-- THE SECOND FORM's CARD OF 'scrivenerlaw2.CodecRow'. -/
def codecRowUptoCard : Claim7 := { stood := { row := codecRowUptoRow, standIns := [], harness := (true, "6f981e05d0a5f1fdee107663c9e7a6f406300f085e60f52256ed7f8df5e96ccd"), looks := true }, kinds := [], alts := [], laidByText := true, laidKinds := [.handle], laidTests := true, laidLooks := .later }
def CodecRowUptoCardSaid : Prop := Claim7.holds Tryd.pinned (.plain (OpenSpec.upto codecRowSpec)) codecRowUptoCard

/-- THE SECOND FORM's CARD OF 'scrivenerlaw2.CodecWrites'. -/
def codecWritesUptoCard : Claim7 := { stood := { row := codecWritesUptoRow, standIns := [], harness := (true, "6f981e05d0a5f1fdee107663c9e7a6f406300f085e60f52256ed7f8df5e96ccd"), looks := true }, kinds := [], alts := [], laidByText := true, laidKinds := [.handle], laidTests := true, laidLooks := .later }
def CodecWritesUptoCardSaid : Prop := Claim7.holds Tryd.pinned (.plain (OpenSpec.upto codecWritesSpec)) codecWritesUptoCard

/-- THE SECOND FORM's CARD OF 'scrivenerlaw2.CodecAgain'. -/
def codecAgainUptoCard : Claim7 := { stood := { row := codecAgainUptoRow, standIns := [], harness := (true, "6f981e05d0a5f1fdee107663c9e7a6f406300f085e60f52256ed7f8df5e96ccd"), looks := true }, kinds := [], alts := [], laidByText := true, laidKinds := [.handle], laidTests := true, laidLooks := .later }
def CodecAgainUptoCardSaid : Prop := Claim7.holds Tryd.pinned (.plain (OpenSpec.upto codecAgainSpec)) codecAgainUptoCard
end Rows
end Go.Proofs.YtfjflnlcjnhmmaaDoor
