/-
  DERIVED. GIVEN WITH THE SEED: THE CARDS: each row of YtekdcmplcjgonaaDoorRows.lean that lists a variable, with what it lists TIED to the program's text (the seventh form; the later family's looks); each row that meets fmt, with fmt's text TOLD by the authors' own Lean function (tested against real Go, not proved from fmt's source: count such statements apart). THE CARD IS WHAT COUNTS. Prove the row's statement (the work); the ties are given (YtekdcmplcjgonaaDoorTie.lean); close each card by the builder's one call (the guide's Derived/Test/ToyasCard.lean, 'card_holds'). Laid BY PROGRAM, IN A SANDBOX (cutbox-door.mjs). By AI agents, Wed Nov 11 2026. No macro, syntax, notation, axiom, sorry.
-/
import Derived.Test.YtekdcmplcjgonaaDoorRows
import GoSem.ClaimSeven
namespace Go.Proofs.YtekdcmplcjgonaaDoor
namespace Rows

/-- THE TIED CARD OF 'sorrellaw06.PrintTells'. -/
def printTellsCard : Claim7 := { stood := { row := printTellsRow, standIns := [], harness := (true, "e6ed9189927cd5fabbfcb9cb11133e7cecddfa02c4f63ebc7532b5518ee02143"), looks := false }, kinds := [], alts := [], laidByText := true, laidKinds := [.data, .data, .data], laidTests := true, laidLooks := .later }
def PrintTellsCardSaid : Prop := Claim7.holds Tryd.pinned (.plain (OpenSpec.ofChange printTellsSpec)) printTellsCard

/-- THE TIED CARD OF 'sorrellaw06.PrintBack'. -/
def printBackCard : Claim7 := { stood := { row := printBackRow, standIns := [], harness := (true, "e6ed9189927cd5fabbfcb9cb11133e7cecddfa02c4f63ebc7532b5518ee02143"), looks := false }, kinds := [], alts := [], laidByText := true, laidKinds := [.data, .data, .data], laidTests := true, laidLooks := .later }
def PrintBackCardSaid : Prop := Claim7.holds Tryd.pinned (.plain (OpenSpec.ofChange printBackSpec)) printBackCard

/-- THE TIED CARD OF 'sorrellaw06.PrintProgram'. -/
def printProgramCard : Claim7 := { stood := { row := printProgramRow, standIns := [], harness := (true, "e6ed9189927cd5fabbfcb9cb11133e7cecddfa02c4f63ebc7532b5518ee02143"), looks := false }, kinds := [], alts := [], laidByText := true, laidKinds := [.data, .data, .data], laidTests := true, laidLooks := .later }
def PrintProgramCardSaid : Prop := Claim7.holds Tryd.pinned (.plain (OpenSpec.ofChange printProgramSpec)) printProgramCard

/-- THE TIED CARD OF 'sorrellaw06.PrintUnlike'. -/
def printUnlikeCard : Claim7 := { stood := { row := printUnlikeRow, standIns := [], harness := (true, "e6ed9189927cd5fabbfcb9cb11133e7cecddfa02c4f63ebc7532b5518ee02143"), looks := false }, kinds := [], alts := [], laidByText := true, laidKinds := [.data, .data, .data], laidTests := true, laidLooks := .later }
def PrintUnlikeCardSaid : Prop := Claim7.holds Tryd.pinned (.plain (OpenSpec.ofChange printUnlikeSpec)) printUnlikeCard

/-- THE TIED CARD OF 'sorrellaw06.PrintQuote'. -/
def printQuoteCard : Claim7 := { stood := { row := printQuoteRow, standIns := [], harness := (true, "e6ed9189927cd5fabbfcb9cb11133e7cecddfa02c4f63ebc7532b5518ee02143"), looks := false }, kinds := [], alts := [], laidByText := true, laidKinds := [.data, .data, .data], laidTests := true, laidLooks := .later }
def PrintQuoteCardSaid : Prop := Claim7.holds Tryd.pinned (.plain (OpenSpec.ofChange printQuoteSpec)) printQuoteCard

/-- THE TIED CARD OF 'sorrellaw06.PrintSigns'. -/
def printSignsCard : Claim7 := { stood := { row := printSignsRow, standIns := [], harness := (true, "e6ed9189927cd5fabbfcb9cb11133e7cecddfa02c4f63ebc7532b5518ee02143"), looks := false }, kinds := [], alts := [], laidByText := true, laidKinds := [.data, .data, .data], laidTests := true, laidLooks := .later }
def PrintSignsCardSaid : Prop := Claim7.holds Tryd.pinned (.plain (OpenSpec.ofChange printSignsSpec)) printSignsCard

/-- THE TIED CARD OF 'sorrellaw06.PrintParts'. -/
def printPartsCard : Claim7 := { stood := { row := printPartsRow, standIns := [], harness := (true, "e6ed9189927cd5fabbfcb9cb11133e7cecddfa02c4f63ebc7532b5518ee02143"), looks := false }, kinds := [], alts := [], laidByText := true, laidKinds := [.data, .data, .data], laidTests := true, laidLooks := .later }
def PrintPartsCardSaid : Prop := Claim7.holds Tryd.pinned (.plain (OpenSpec.ofChange printPartsSpec)) printPartsCard

/-- THE TIED CARD OF 'sorrellaw06.PrintLists'. -/
def printListsCard : Claim7 := { stood := { row := printListsRow, standIns := [], harness := (true, "e6ed9189927cd5fabbfcb9cb11133e7cecddfa02c4f63ebc7532b5518ee02143"), looks := false }, kinds := [], alts := [], laidByText := true, laidKinds := [.data, .data, .data], laidTests := true, laidLooks := .later }
def PrintListsCardSaid : Prop := Claim7.holds Tryd.pinned (.plain (OpenSpec.ofChange printListsSpec)) printListsCard

/-- THE SECOND FORM's CARD OF 'sorrellaw06.PrintTells'. -/
def printTellsUptoCard : Claim7 := { stood := { row := printTellsUptoRow, standIns := [], harness := (true, "e6ed9189927cd5fabbfcb9cb11133e7cecddfa02c4f63ebc7532b5518ee02143"), looks := false }, kinds := [], alts := [], laidByText := true, laidKinds := [.data, .data, .data], laidTests := true, laidLooks := .later }
def PrintTellsUptoCardSaid : Prop := Claim7.holds Tryd.pinned (.plain (OpenSpec.upto printTellsSpec)) printTellsUptoCard

/-- THE SECOND FORM's CARD OF 'sorrellaw06.PrintBack'. -/
def printBackUptoCard : Claim7 := { stood := { row := printBackUptoRow, standIns := [], harness := (true, "e6ed9189927cd5fabbfcb9cb11133e7cecddfa02c4f63ebc7532b5518ee02143"), looks := false }, kinds := [], alts := [], laidByText := true, laidKinds := [.data, .data, .data], laidTests := true, laidLooks := .later }
def PrintBackUptoCardSaid : Prop := Claim7.holds Tryd.pinned (.plain (OpenSpec.upto printBackSpec)) printBackUptoCard

/-- THE SECOND FORM's CARD OF 'sorrellaw06.PrintProgram'. -/
def printProgramUptoCard : Claim7 := { stood := { row := printProgramUptoRow, standIns := [], harness := (true, "e6ed9189927cd5fabbfcb9cb11133e7cecddfa02c4f63ebc7532b5518ee02143"), looks := false }, kinds := [], alts := [], laidByText := true, laidKinds := [.data, .data, .data], laidTests := true, laidLooks := .later }
def PrintProgramUptoCardSaid : Prop := Claim7.holds Tryd.pinned (.plain (OpenSpec.upto printProgramSpec)) printProgramUptoCard

/-- THE SECOND FORM's CARD OF 'sorrellaw06.PrintUnlike'. -/
def printUnlikeUptoCard : Claim7 := { stood := { row := printUnlikeUptoRow, standIns := [], harness := (true, "e6ed9189927cd5fabbfcb9cb11133e7cecddfa02c4f63ebc7532b5518ee02143"), looks := false }, kinds := [], alts := [], laidByText := true, laidKinds := [.data, .data, .data], laidTests := true, laidLooks := .later }
def PrintUnlikeUptoCardSaid : Prop := Claim7.holds Tryd.pinned (.plain (OpenSpec.upto printUnlikeSpec)) printUnlikeUptoCard

/-- THE SECOND FORM's CARD OF 'sorrellaw06.PrintQuote'. -/
def printQuoteUptoCard : Claim7 := { stood := { row := printQuoteUptoRow, standIns := [], harness := (true, "e6ed9189927cd5fabbfcb9cb11133e7cecddfa02c4f63ebc7532b5518ee02143"), looks := false }, kinds := [], alts := [], laidByText := true, laidKinds := [.data, .data, .data], laidTests := true, laidLooks := .later }
def PrintQuoteUptoCardSaid : Prop := Claim7.holds Tryd.pinned (.plain (OpenSpec.upto printQuoteSpec)) printQuoteUptoCard

/-- THE SECOND FORM's CARD OF 'sorrellaw06.PrintSigns'. -/
def printSignsUptoCard : Claim7 := { stood := { row := printSignsUptoRow, standIns := [], harness := (true, "e6ed9189927cd5fabbfcb9cb11133e7cecddfa02c4f63ebc7532b5518ee02143"), looks := false }, kinds := [], alts := [], laidByText := true, laidKinds := [.data, .data, .data], laidTests := true, laidLooks := .later }
def PrintSignsUptoCardSaid : Prop := Claim7.holds Tryd.pinned (.plain (OpenSpec.upto printSignsSpec)) printSignsUptoCard

/-- THE SECOND FORM's CARD OF 'sorrellaw06.PrintParts'. -/
def printPartsUptoCard : Claim7 := { stood := { row := printPartsUptoRow, standIns := [], harness := (true, "e6ed9189927cd5fabbfcb9cb11133e7cecddfa02c4f63ebc7532b5518ee02143"), looks := false }, kinds := [], alts := [], laidByText := true, laidKinds := [.data, .data, .data], laidTests := true, laidLooks := .later }
def PrintPartsUptoCardSaid : Prop := Claim7.holds Tryd.pinned (.plain (OpenSpec.upto printPartsSpec)) printPartsUptoCard

/-- THE SECOND FORM's CARD OF 'sorrellaw06.PrintLists'. -/
def printListsUptoCard : Claim7 := { stood := { row := printListsUptoRow, standIns := [], harness := (true, "e6ed9189927cd5fabbfcb9cb11133e7cecddfa02c4f63ebc7532b5518ee02143"), looks := false }, kinds := [], alts := [], laidByText := true, laidKinds := [.data, .data, .data], laidTests := true, laidLooks := .later }
def PrintListsUptoCardSaid : Prop := Claim7.holds Tryd.pinned (.plain (OpenSpec.upto printListsSpec)) printListsUptoCard
end Rows
end Go.Proofs.YtekdcmplcjgonaaDoor
