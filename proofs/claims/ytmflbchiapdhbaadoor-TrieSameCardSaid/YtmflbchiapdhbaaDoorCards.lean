/-
  DERIVED. GIVEN WITH THE SEED: THE CARDS: each row of YtmflbchiapdhbaaDoorRows.lean that lists a variable, with what it lists TIED to the program's text (the seventh form; the later family's looks); each row that meets fmt, with fmt's text TOLD by the authors' own Lean function (tested against real Go, not proved from fmt's source: count such statements apart). THE CARD IS WHAT COUNTS. Prove the row's statement (the work); the ties are given (YtmflbchiapdhbaaDoorTie.lean); close each card by the builder's one call (the guide's Derived/Test/ToyasCard.lean, 'card_holds'). Laid BY PROGRAM, IN A SANDBOX (cutbox-door.mjs). By AI agents, Wed Nov 11 2026. No macro, syntax, notation, axiom, sorry.
-/
import Derived.Test.YtmflbchiapdhbaaDoorRows
import GoSem.ClaimSeven
namespace Go.Proofs.YtmflbchiapdhbaaDoor
namespace Rows

/-- THE TIED CARD OF 'scrivenerlaw24.TrieChecks'. -/
def trieChecksCard : Claim7 := { stood := { row := trieChecksRow, standIns := [], harness := (true, "27e878a35add0ee22088f4cd598443d856edc4ea200bcc97daa16c826341d6fe"), looks := true }, kinds := [], alts := [], laidByText := true, laidKinds := [.data, .data], laidTests := true, laidLooks := .later }
def TrieChecksCardSaid : Prop := Claim7.holds Tryd.pinned (.plain (OpenSpec.ofChange trieChecksSpec)) trieChecksCard

/-- THE TIED CARD OF 'scrivenerlaw24.TrieProves'. -/
def trieProvesCard : Claim7 := { stood := { row := trieProvesRow, standIns := [], harness := (true, "27e878a35add0ee22088f4cd598443d856edc4ea200bcc97daa16c826341d6fe"), looks := true }, kinds := [], alts := [], laidByText := true, laidKinds := [.data, .data], laidTests := true, laidLooks := .later }
def TrieProvesCardSaid : Prop := Claim7.holds Tryd.pinned (.plain (OpenSpec.ofChange trieProvesSpec)) trieProvesCard

/-- THE TIED CARD OF 'scrivenerlaw24.TrieGets'. -/
def trieGetsCard : Claim7 := { stood := { row := trieGetsRow, standIns := [], harness := (true, "27e878a35add0ee22088f4cd598443d856edc4ea200bcc97daa16c826341d6fe"), looks := true }, kinds := [], alts := [], laidByText := true, laidKinds := [.data, .data], laidTests := true, laidLooks := .later }
def TrieGetsCardSaid : Prop := Claim7.holds Tryd.pinned (.plain (OpenSpec.ofChange trieGetsSpec)) trieGetsCard

/-- THE TIED CARD OF 'scrivenerlaw24.TrieSame'. -/
def trieSameCard : Claim7 := { stood := { row := trieSameRow, standIns := [], harness := (true, "27e878a35add0ee22088f4cd598443d856edc4ea200bcc97daa16c826341d6fe"), looks := true }, kinds := [], alts := [], laidByText := true, laidKinds := [.data, .data], laidTests := true, laidLooks := .later }
def TrieSameCardSaid : Prop := Claim7.holds Tryd.pinned (.plain (OpenSpec.ofChange trieSameSpec)) trieSameCard

/-- THE SECOND FORM's CARD OF 'scrivenerlaw24.TrieChecks'. -/
def trieChecksUptoCard : Claim7 := { stood := { row := trieChecksUptoRow, standIns := [], harness := (true, "27e878a35add0ee22088f4cd598443d856edc4ea200bcc97daa16c826341d6fe"), looks := true }, kinds := [], alts := [], laidByText := true, laidKinds := [.data, .data], laidTests := true, laidLooks := .later }
def TrieChecksUptoCardSaid : Prop := Claim7.holds Tryd.pinned (.plain (OpenSpec.upto trieChecksSpec)) trieChecksUptoCard

/-- THE SECOND FORM's CARD OF 'scrivenerlaw24.TrieProves'. -/
def trieProvesUptoCard : Claim7 := { stood := { row := trieProvesUptoRow, standIns := [], harness := (true, "27e878a35add0ee22088f4cd598443d856edc4ea200bcc97daa16c826341d6fe"), looks := true }, kinds := [], alts := [], laidByText := true, laidKinds := [.data, .data], laidTests := true, laidLooks := .later }
def TrieProvesUptoCardSaid : Prop := Claim7.holds Tryd.pinned (.plain (OpenSpec.upto trieProvesSpec)) trieProvesUptoCard

/-- THE SECOND FORM's CARD OF 'scrivenerlaw24.TrieGets'. -/
def trieGetsUptoCard : Claim7 := { stood := { row := trieGetsUptoRow, standIns := [], harness := (true, "27e878a35add0ee22088f4cd598443d856edc4ea200bcc97daa16c826341d6fe"), looks := true }, kinds := [], alts := [], laidByText := true, laidKinds := [.data, .data], laidTests := true, laidLooks := .later }
def TrieGetsUptoCardSaid : Prop := Claim7.holds Tryd.pinned (.plain (OpenSpec.upto trieGetsSpec)) trieGetsUptoCard

/-- THE SECOND FORM's CARD OF 'scrivenerlaw24.TrieSame'. -/
def trieSameUptoCard : Claim7 := { stood := { row := trieSameUptoRow, standIns := [], harness := (true, "27e878a35add0ee22088f4cd598443d856edc4ea200bcc97daa16c826341d6fe"), looks := true }, kinds := [], alts := [], laidByText := true, laidKinds := [.data, .data], laidTests := true, laidLooks := .later }
def TrieSameUptoCardSaid : Prop := Claim7.holds Tryd.pinned (.plain (OpenSpec.upto trieSameSpec)) trieSameUptoCard
end Rows
end Go.Proofs.YtmflbchiapdhbaaDoor
