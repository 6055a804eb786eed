/-
  DERIVED. GIVEN WITH THE SEED: THE CARDS: each row of YtgikabafaocemaaDoorRows.lean that lists a variable, with what it lists TIED to the program's text (the seventh form; the later family's looks); each row that meets fmt, with fmt's text TOLD by the authors' own Lean function (tested against real Go, not proved from fmt's source: count such statements apart). THE CARD IS WHAT COUNTS. Prove the row's statement (the work); the ties are given (YtgikabafaocemaaDoorTie.lean); close each card by the builder's one call (the guide's Derived/Test/ToyasCard.lean, 'card_holds'). Laid BY PROGRAM, IN A SANDBOX (cutbox-door.mjs). By AI agents, Wed Nov 11 2026. No macro, syntax, notation, axiom, sorry.
-/
import Derived.Test.YtgikabafaocemaaDoorRows
import GoSem.ClaimSeven
namespace Go.Proofs.YtgikabafaocemaaDoor
namespace Rows

/-- THE TIED CARD OF 'scrivenerlaw14.SpanProves'. -/
def spanProvesCard : Claim7 := { stood := { row := spanProvesRow, standIns := [], harness := (true, "771cc205d9c25effe59dc88d797e310c23e83be87293fc5180b6444136108e92"), looks := false }, kinds := [], alts := [], laidByText := true, laidKinds := [.data, .data, .data, .data], laidTests := true, laidLooks := .later }
def SpanProvesCardSaid : Prop := Claim7.holds Tryd.pinned (.plain (OpenSpec.ofChange spanProvesSpec)) spanProvesCard

/-- THE TIED CARD OF 'scrivenerlaw14.SpanRoots'. -/
def spanRootsCard : Claim7 := { stood := { row := spanRootsRow, standIns := [], harness := (true, "771cc205d9c25effe59dc88d797e310c23e83be87293fc5180b6444136108e92"), looks := false }, kinds := [], alts := [], laidByText := true, laidKinds := [.data, .data, .data, .data], laidTests := true, laidLooks := .later }
def SpanRootsCardSaid : Prop := Claim7.holds Tryd.pinned (.plain (OpenSpec.ofChange spanRootsSpec)) spanRootsCard

/-- THE TIED CARD OF 'scrivenerlaw14.SpanRight'. -/
def spanRightCard : Claim7 := { stood := { row := spanRightRow, standIns := [], harness := (true, "771cc205d9c25effe59dc88d797e310c23e83be87293fc5180b6444136108e92"), looks := false }, kinds := [], alts := [], laidByText := true, laidKinds := [.data, .data, .data, .data], laidTests := true, laidLooks := .later }
def SpanRightCardSaid : Prop := Claim7.holds Tryd.pinned (.plain (OpenSpec.ofChange spanRightSpec)) spanRightCard

/-- THE TIED CARD OF 'scrivenerlaw14.SpanTells'. -/
def spanTellsCard : Claim7 := { stood := { row := spanTellsRow, standIns := [], harness := (true, "771cc205d9c25effe59dc88d797e310c23e83be87293fc5180b6444136108e92"), looks := false }, kinds := [], alts := [], laidByText := true, laidKinds := [.data, .data, .data, .data], laidTests := true, laidLooks := .later }
def SpanTellsCardSaid : Prop := Claim7.holds Tryd.pinned (.plain (OpenSpec.ofChange spanTellsSpec)) spanTellsCard

/-- THE TIED CARD OF 'scrivenerlaw14.SpanRuns'. -/
def spanRunsCard : Claim7 := { stood := { row := spanRunsRow, standIns := [], harness := (true, "771cc205d9c25effe59dc88d797e310c23e83be87293fc5180b6444136108e92"), looks := false }, kinds := [], alts := [], laidByText := true, laidKinds := [.data, .data, .data, .data], laidTests := true, laidLooks := .later }
def SpanRunsCardSaid : Prop := Claim7.holds Tryd.pinned (.plain (OpenSpec.ofChange spanRunsSpec)) spanRunsCard

/-- THE SECOND FORM's CARD OF 'scrivenerlaw14.SpanProves'. -/
def spanProvesUptoCard : Claim7 := { stood := { row := spanProvesUptoRow, standIns := [], harness := (true, "771cc205d9c25effe59dc88d797e310c23e83be87293fc5180b6444136108e92"), looks := false }, kinds := [], alts := [], laidByText := true, laidKinds := [.data, .data, .data, .data], laidTests := true, laidLooks := .later }
def SpanProvesUptoCardSaid : Prop := Claim7.holds Tryd.pinned (.plain (OpenSpec.upto spanProvesSpec)) spanProvesUptoCard

/-- THE SECOND FORM's CARD OF 'scrivenerlaw14.SpanRoots'. -/
def spanRootsUptoCard : Claim7 := { stood := { row := spanRootsUptoRow, standIns := [], harness := (true, "771cc205d9c25effe59dc88d797e310c23e83be87293fc5180b6444136108e92"), looks := false }, kinds := [], alts := [], laidByText := true, laidKinds := [.data, .data, .data, .data], laidTests := true, laidLooks := .later }
def SpanRootsUptoCardSaid : Prop := Claim7.holds Tryd.pinned (.plain (OpenSpec.upto spanRootsSpec)) spanRootsUptoCard

/-- THE SECOND FORM's CARD OF 'scrivenerlaw14.SpanRight'. -/
def spanRightUptoCard : Claim7 := { stood := { row := spanRightUptoRow, standIns := [], harness := (true, "771cc205d9c25effe59dc88d797e310c23e83be87293fc5180b6444136108e92"), looks := false }, kinds := [], alts := [], laidByText := true, laidKinds := [.data, .data, .data, .data], laidTests := true, laidLooks := .later }
def SpanRightUptoCardSaid : Prop := Claim7.holds Tryd.pinned (.plain (OpenSpec.upto spanRightSpec)) spanRightUptoCard

/-- THE SECOND FORM's CARD OF 'scrivenerlaw14.SpanTells'. -/
def spanTellsUptoCard : Claim7 := { stood := { row := spanTellsUptoRow, standIns := [], harness := (true, "771cc205d9c25effe59dc88d797e310c23e83be87293fc5180b6444136108e92"), looks := false }, kinds := [], alts := [], laidByText := true, laidKinds := [.data, .data, .data, .data], laidTests := true, laidLooks := .later }
def SpanTellsUptoCardSaid : Prop := Claim7.holds Tryd.pinned (.plain (OpenSpec.upto spanTellsSpec)) spanTellsUptoCard

/-- THE SECOND FORM's CARD OF 'scrivenerlaw14.SpanRuns'. -/
def spanRunsUptoCard : Claim7 := { stood := { row := spanRunsUptoRow, standIns := [], harness := (true, "771cc205d9c25effe59dc88d797e310c23e83be87293fc5180b6444136108e92"), looks := false }, kinds := [], alts := [], laidByText := true, laidKinds := [.data, .data, .data, .data], laidTests := true, laidLooks := .later }
def SpanRunsUptoCardSaid : Prop := Claim7.holds Tryd.pinned (.plain (OpenSpec.upto spanRunsSpec)) spanRunsUptoCard
end Rows
end Go.Proofs.YtgikabafaocemaaDoor
