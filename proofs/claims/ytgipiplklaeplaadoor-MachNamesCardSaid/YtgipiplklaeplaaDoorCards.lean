/-
  DERIVED. GIVEN WITH THE SEED: THE CARDS: each row of YtgipiplklaeplaaDoorRows.lean that lists a variable, with what it lists TIED to the program's text (the seventh form; the later family's looks); each row that meets fmt, with fmt's text TOLD by the authors' own Lean function (tested against real Go, not proved from fmt's source: count such statements apart). THE CARD IS WHAT COUNTS. Prove the row's statement (the work); the ties are given (YtgipiplklaeplaaDoorTie.lean); close each card by the builder's one call (the guide's Derived/Test/ToyasCard.lean, 'card_holds'). Laid BY PROGRAM, IN A SANDBOX (cutbox-door.mjs). By AI agents, Wed Nov 11 2026. No macro, syntax, notation, axiom, sorry.
-/
import Derived.Test.YtgipiplklaeplaaDoorRows
import GoSem.ClaimSeven
namespace Go.Proofs.YtgipiplklaeplaaDoor
namespace Rows

/-- THE TIED CARD OF 'sorrellaw11.MachInstance'. -/
def machInstanceCard : Claim7 := { stood := { row := machInstanceRow, standIns := [], harness := (true, "db08c3285802ce3926e02d4a71c850680fe129015a424153ca47577cbc0418c7"), looks := true }, kinds := [], alts := [], laidByText := true, laidKinds := [.funcs], laidTests := true, laidLooks := .later }
def MachInstanceCardSaid : Prop := Claim7.holds Tryd.pinned (.plain (OpenSpec.ofChange machInstanceSpec)) machInstanceCard

/-- THE TIED CARD OF 'sorrellaw11.MachRight'. -/
def machRightCard : Claim7 := { stood := { row := machRightRow, standIns := [], harness := (true, "db08c3285802ce3926e02d4a71c850680fe129015a424153ca47577cbc0418c7"), looks := true }, kinds := [], alts := [], laidByText := true, laidKinds := [.funcs], laidTests := true, laidLooks := .later }
def MachRightCardSaid : Prop := Claim7.holds Tryd.pinned (.plain (OpenSpec.ofChange machRightSpec)) machRightCard

/-- THE TIED CARD OF 'sorrellaw11.MachMgu'. -/
def machMguCard : Claim7 := { stood := { row := machMguRow, standIns := [], harness := (true, "db08c3285802ce3926e02d4a71c850680fe129015a424153ca47577cbc0418c7"), looks := true }, kinds := [], alts := [], laidByText := true, laidKinds := [.funcs], laidTests := true, laidLooks := .later }
def MachMguCardSaid : Prop := Claim7.holds Tryd.pinned (.plain (OpenSpec.ofChange machMguSpec)) machMguCard

/-- THE TIED CARD OF 'sorrellaw11.MachNames'. -/
def machNamesCard : Claim7 := { stood := { row := machNamesRow, standIns := [], harness := (true, "db08c3285802ce3926e02d4a71c850680fe129015a424153ca47577cbc0418c7"), looks := true }, kinds := [], alts := [], laidByText := true, laidKinds := [.funcs], laidTests := true, laidLooks := .later }
def MachNamesCardSaid : Prop := Claim7.holds Tryd.pinned (.plain (OpenSpec.ofChange machNamesSpec)) machNamesCard

/-- THE TIED CARD OF 'sorrellaw11.MachSelf'. -/
def machSelfCard : Claim7 := { stood := { row := machSelfRow, standIns := [], harness := (true, "db08c3285802ce3926e02d4a71c850680fe129015a424153ca47577cbc0418c7"), looks := true }, kinds := [], alts := [], laidByText := true, laidKinds := [.funcs], laidTests := true, laidLooks := .later }
def MachSelfCardSaid : Prop := Claim7.holds Tryd.pinned (.plain (OpenSpec.ofChange machSelfSpec)) machSelfCard

/-- THE TIED CARD OF 'sorrellaw11.MachSteps'. -/
def machStepsCard : Claim7 := { stood := { row := machStepsRow, standIns := [], harness := (true, "db08c3285802ce3926e02d4a71c850680fe129015a424153ca47577cbc0418c7"), looks := true }, kinds := [], alts := [], laidByText := true, laidKinds := [.funcs], laidTests := true, laidLooks := .later }
def MachStepsCardSaid : Prop := Claim7.holds Tryd.pinned (.plain (OpenSpec.ofChange machStepsSpec)) machStepsCard

/-- THE TIED CARD OF 'sorrellaw11.MachRoom'. -/
def machRoomCard : Claim7 := { stood := { row := machRoomRow, standIns := [], harness := (true, "db08c3285802ce3926e02d4a71c850680fe129015a424153ca47577cbc0418c7"), looks := true }, kinds := [], alts := [], laidByText := true, laidKinds := [.funcs], laidTests := true, laidLooks := .later }
def MachRoomCardSaid : Prop := Claim7.holds Tryd.pinned (.plain (OpenSpec.ofChange machRoomSpec)) machRoomCard

/-- THE SECOND FORM's CARD OF 'sorrellaw11.MachInstance'. -/
def machInstanceUptoCard : Claim7 := { stood := { row := machInstanceUptoRow, standIns := [], harness := (true, "db08c3285802ce3926e02d4a71c850680fe129015a424153ca47577cbc0418c7"), looks := true }, kinds := [], alts := [], laidByText := true, laidKinds := [.funcs], laidTests := true, laidLooks := .later }
def MachInstanceUptoCardSaid : Prop := Claim7.holds Tryd.pinned (.plain (OpenSpec.upto machInstanceSpec)) machInstanceUptoCard

/-- THE SECOND FORM's CARD OF 'sorrellaw11.MachRight'. -/
def machRightUptoCard : Claim7 := { stood := { row := machRightUptoRow, standIns := [], harness := (true, "db08c3285802ce3926e02d4a71c850680fe129015a424153ca47577cbc0418c7"), looks := true }, kinds := [], alts := [], laidByText := true, laidKinds := [.funcs], laidTests := true, laidLooks := .later }
def MachRightUptoCardSaid : Prop := Claim7.holds Tryd.pinned (.plain (OpenSpec.upto machRightSpec)) machRightUptoCard

/-- THE SECOND FORM's CARD OF 'sorrellaw11.MachMgu'. -/
def machMguUptoCard : Claim7 := { stood := { row := machMguUptoRow, standIns := [], harness := (true, "db08c3285802ce3926e02d4a71c850680fe129015a424153ca47577cbc0418c7"), looks := true }, kinds := [], alts := [], laidByText := true, laidKinds := [.funcs], laidTests := true, laidLooks := .later }
def MachMguUptoCardSaid : Prop := Claim7.holds Tryd.pinned (.plain (OpenSpec.upto machMguSpec)) machMguUptoCard

/-- THE SECOND FORM's CARD OF 'sorrellaw11.MachNames'. -/
def machNamesUptoCard : Claim7 := { stood := { row := machNamesUptoRow, standIns := [], harness := (true, "db08c3285802ce3926e02d4a71c850680fe129015a424153ca47577cbc0418c7"), looks := true }, kinds := [], alts := [], laidByText := true, laidKinds := [.funcs], laidTests := true, laidLooks := .later }
def MachNamesUptoCardSaid : Prop := Claim7.holds Tryd.pinned (.plain (OpenSpec.upto machNamesSpec)) machNamesUptoCard

/-- THE SECOND FORM's CARD OF 'sorrellaw11.MachSelf'. -/
def machSelfUptoCard : Claim7 := { stood := { row := machSelfUptoRow, standIns := [], harness := (true, "db08c3285802ce3926e02d4a71c850680fe129015a424153ca47577cbc0418c7"), looks := true }, kinds := [], alts := [], laidByText := true, laidKinds := [.funcs], laidTests := true, laidLooks := .later }
def MachSelfUptoCardSaid : Prop := Claim7.holds Tryd.pinned (.plain (OpenSpec.upto machSelfSpec)) machSelfUptoCard

/-- THE SECOND FORM's CARD OF 'sorrellaw11.MachSteps'. -/
def machStepsUptoCard : Claim7 := { stood := { row := machStepsUptoRow, standIns := [], harness := (true, "db08c3285802ce3926e02d4a71c850680fe129015a424153ca47577cbc0418c7"), looks := true }, kinds := [], alts := [], laidByText := true, laidKinds := [.funcs], laidTests := true, laidLooks := .later }
def MachStepsUptoCardSaid : Prop := Claim7.holds Tryd.pinned (.plain (OpenSpec.upto machStepsSpec)) machStepsUptoCard

/-- THE SECOND FORM's CARD OF 'sorrellaw11.MachRoom'. -/
def machRoomUptoCard : Claim7 := { stood := { row := machRoomUptoRow, standIns := [], harness := (true, "db08c3285802ce3926e02d4a71c850680fe129015a424153ca47577cbc0418c7"), looks := true }, kinds := [], alts := [], laidByText := true, laidKinds := [.funcs], laidTests := true, laidLooks := .later }
def MachRoomUptoCardSaid : Prop := Claim7.holds Tryd.pinned (.plain (OpenSpec.upto machRoomSpec)) machRoomUptoCard
end Rows
end Go.Proofs.YtgipiplklaeplaaDoor
