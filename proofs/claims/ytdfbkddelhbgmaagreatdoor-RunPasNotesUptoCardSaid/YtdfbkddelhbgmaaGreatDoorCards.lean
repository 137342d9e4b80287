/-
  DERIVED. GIVEN WITH THE SEED: THE CARDS: each row of YtdfbkddelhbgmaaGreatDoorRows.lean that lists a variable, with what it lists TIED to the program's text (the seventh form; the later family's looks); each row that meets fmt, with fmt's text TOLD by the authors' own Lean function (tested against real Go, not proved from fmt's source: count such statements apart). THE CARD IS WHAT COUNTS. Prove the row's statement (the work); the ties are given (YtdfbkddelhbgmaaGreatDoorTie.lean); close each card by the builder's one call (the guide's Derived/Test/ToyasCard.lean, 'card_holds'). Laid BY PROGRAM, IN A SANDBOX (cutbox-door.mjs). By AI agents, Wed Nov 11 2026. No macro, syntax, notation, axiom, sorry.
-/
import Derived.Test.YtdfbkddelhbgmaaGreatDoorRows
import GoSem.ClaimSeven
namespace Go.Proofs.YtdfbkddelhbgmaaGreatDoor
namespace Rows

/-- THE TIED CARD OF 'pantographlaw20.RunPasDoes'. -/
def runPasDoesCard : Claim7 := { stood := { row := runPasDoesRow, standIns := [], harness := (true, "9582ba2e82f0b0b67923de2fe12b1cb78e3283d2aac4b4c21da69598447623c8"), looks := false }, kinds := [], alts := [], laidByText := true, laidKinds := [.data, .listed, .data, .pinned], laidTests := true, laidLooks := .later }
def RunPasDoesCardSaid : Prop := Claim7.holds Tryz.pinned (.plain (OpenSpec.ofChange runPasDoesSpec)) runPasDoesCard

/-- THE TIED CARD OF 'pantographlaw20.RunPasMore'. -/
def runPasMoreCard : Claim7 := { stood := { row := runPasMoreRow, standIns := [], harness := (true, "9582ba2e82f0b0b67923de2fe12b1cb78e3283d2aac4b4c21da69598447623c8"), looks := false }, kinds := [], alts := [], laidByText := true, laidKinds := [.data, .listed, .data, .pinned], laidTests := true, laidLooks := .later }
def RunPasMoreCardSaid : Prop := Claim7.holds Tryz.pinned (.plain (OpenSpec.ofChange runPasMoreSpec)) runPasMoreCard

/-- THE TIED CARD OF 'pantographlaw20.RunPasNotes'. -/
def runPasNotesCard : Claim7 := { stood := { row := runPasNotesRow, standIns := [], harness := (true, "9582ba2e82f0b0b67923de2fe12b1cb78e3283d2aac4b4c21da69598447623c8"), looks := false }, kinds := [], alts := [], laidByText := true, laidKinds := [.data, .listed, .data, .pinned], laidTests := true, laidLooks := .later }
def RunPasNotesCardSaid : Prop := Claim7.holds Tryz.pinned (.plain (OpenSpec.ofChange runPasNotesSpec)) runPasNotesCard

/-- THE TIED CARD OF 'pantographlaw20.RunPasSums'. -/
def runPasSumsCard : Claim7 := { stood := { row := runPasSumsRow, standIns := [], harness := (true, "9582ba2e82f0b0b67923de2fe12b1cb78e3283d2aac4b4c21da69598447623c8"), looks := false }, kinds := [], alts := [], laidByText := true, laidKinds := [.data, .listed, .data, .pinned], laidTests := true, laidLooks := .later }
def RunPasSumsCardSaid : Prop := Claim7.holds Tryz.pinned (.plain (OpenSpec.ofChange runPasSumsSpec)) runPasSumsCard

/-- THE TIED CARD OF 'pantographlaw20.RunPasReads'. -/
def runPasReadsCard : Claim7 := { stood := { row := runPasReadsRow, standIns := [], harness := (true, "9582ba2e82f0b0b67923de2fe12b1cb78e3283d2aac4b4c21da69598447623c8"), looks := false }, kinds := [], alts := [], laidByText := true, laidKinds := [.data, .listed, .data, .pinned], laidTests := true, laidLooks := .later }
def RunPasReadsCardSaid : Prop := Claim7.holds Tryz.pinned (.plain (OpenSpec.ofChange runPasReadsSpec)) runPasReadsCard

/-- THE TIED CARD OF 'pantographlaw20.RunPasSteps'. -/
def runPasStepsCard : Claim7 := { stood := { row := runPasStepsRow, standIns := [], harness := (true, "9582ba2e82f0b0b67923de2fe12b1cb78e3283d2aac4b4c21da69598447623c8"), looks := false }, kinds := [], alts := [], laidByText := true, laidKinds := [.data, .listed, .data, .pinned], laidTests := true, laidLooks := .later }
def RunPasStepsCardSaid : Prop := Claim7.holds Tryz.pinned (.plain (OpenSpec.ofChange runPasStepsSpec)) runPasStepsCard

/-- THE SECOND FORM's CARD OF 'pantographlaw20.RunPasDoes'. -/
def runPasDoesUptoCard : Claim7 := { stood := { row := runPasDoesUptoRow, standIns := [], harness := (true, "9582ba2e82f0b0b67923de2fe12b1cb78e3283d2aac4b4c21da69598447623c8"), looks := false }, kinds := [], alts := [], laidByText := true, laidKinds := [.data, .listed, .data, .pinned], laidTests := true, laidLooks := .later }
def RunPasDoesUptoCardSaid : Prop := Claim7.holds Tryz.pinned (.plain (OpenSpec.upto runPasDoesSpec)) runPasDoesUptoCard

/-- THE SECOND FORM's CARD OF 'pantographlaw20.RunPasMore'. -/
def runPasMoreUptoCard : Claim7 := { stood := { row := runPasMoreUptoRow, standIns := [], harness := (true, "9582ba2e82f0b0b67923de2fe12b1cb78e3283d2aac4b4c21da69598447623c8"), looks := false }, kinds := [], alts := [], laidByText := true, laidKinds := [.data, .listed, .data, .pinned], laidTests := true, laidLooks := .later }
def RunPasMoreUptoCardSaid : Prop := Claim7.holds Tryz.pinned (.plain (OpenSpec.upto runPasMoreSpec)) runPasMoreUptoCard

/-- THE SECOND FORM's CARD OF 'pantographlaw20.RunPasNotes'. -/
def runPasNotesUptoCard : Claim7 := { stood := { row := runPasNotesUptoRow, standIns := [], harness := (true, "9582ba2e82f0b0b67923de2fe12b1cb78e3283d2aac4b4c21da69598447623c8"), looks := false }, kinds := [], alts := [], laidByText := true, laidKinds := [.data, .listed, .data, .pinned], laidTests := true, laidLooks := .later }
def RunPasNotesUptoCardSaid : Prop := Claim7.holds Tryz.pinned (.plain (OpenSpec.upto runPasNotesSpec)) runPasNotesUptoCard

/-- THE SECOND FORM's CARD OF 'pantographlaw20.RunPasSums'. -/
def runPasSumsUptoCard : Claim7 := { stood := { row := runPasSumsUptoRow, standIns := [], harness := (true, "9582ba2e82f0b0b67923de2fe12b1cb78e3283d2aac4b4c21da69598447623c8"), looks := false }, kinds := [], alts := [], laidByText := true, laidKinds := [.data, .listed, .data, .pinned], laidTests := true, laidLooks := .later }
def RunPasSumsUptoCardSaid : Prop := Claim7.holds Tryz.pinned (.plain (OpenSpec.upto runPasSumsSpec)) runPasSumsUptoCard

/-- THE SECOND FORM's CARD OF 'pantographlaw20.RunPasReads'. -/
def runPasReadsUptoCard : Claim7 := { stood := { row := runPasReadsUptoRow, standIns := [], harness := (true, "9582ba2e82f0b0b67923de2fe12b1cb78e3283d2aac4b4c21da69598447623c8"), looks := false }, kinds := [], alts := [], laidByText := true, laidKinds := [.data, .listed, .data, .pinned], laidTests := true, laidLooks := .later }
def RunPasReadsUptoCardSaid : Prop := Claim7.holds Tryz.pinned (.plain (OpenSpec.upto runPasReadsSpec)) runPasReadsUptoCard

/-- THE SECOND FORM's CARD OF 'pantographlaw20.RunPasSteps'. -/
def runPasStepsUptoCard : Claim7 := { stood := { row := runPasStepsUptoRow, standIns := [], harness := (true, "9582ba2e82f0b0b67923de2fe12b1cb78e3283d2aac4b4c21da69598447623c8"), looks := false }, kinds := [], alts := [], laidByText := true, laidKinds := [.data, .listed, .data, .pinned], laidTests := true, laidLooks := .later }
def RunPasStepsUptoCardSaid : Prop := Claim7.holds Tryz.pinned (.plain (OpenSpec.upto runPasStepsSpec)) runPasStepsUptoCard
end Rows
end Go.Proofs.YtdfbkddelhbgmaaGreatDoor
