/-
  DERIVED. GIVEN WITH THE SEED: THE CARDS: each row of YtlflapoljegmoaaGreatDoorRows.lean that lists a variable, with what it lists TIED to the program's text (the seventh form; the later family's looks); each row that meets fmt, with fmt's text TOLD by the authors' own Lean function (tested against real Go, not proved from fmt's source: count such statements apart). THE CARD IS WHAT COUNTS. Prove the row's statement (the work); the ties are given (YtlflapoljegmoaaGreatDoorTie.lean); close each card by the builder's one call (the guide's Derived/Test/ToyasCard.lean, 'card_holds'). Laid BY PROGRAM, IN A SANDBOX (cutbox-door.mjs). By AI agents, Wed Nov 11 2026. No macro, syntax, notation, axiom, sorry.
-/
import Derived.Test.YtlflapoljegmoaaGreatDoorRows
import GoSem.ClaimSeven
namespace Go.Proofs.YtlflapoljegmoaaGreatDoor
namespace Rows

/-- THE TIED CARD OF 'pantographlaw14.LiftLifts'. -/
def liftLiftsCard : Claim7 := { stood := { row := liftLiftsRow, standIns := [], harness := (true, "858c972039037528d8394bd5df7835f2a7c041a0b6bad2b5edaad2228a7aaeba"), looks := false }, kinds := [], alts := [], laidByText := true, laidKinds := [.data, .pinned], laidTests := true, laidLooks := .later }
def LiftLiftsCardSaid : Prop := Claim7.holds Tryz.pinned (.plain (OpenSpec.ofChange liftLiftsSpec)) liftLiftsCard

/-- THE TIED CARD OF 'pantographlaw14.LiftRight'. -/
def liftRightCard : Claim7 := { stood := { row := liftRightRow, standIns := [], harness := (true, "858c972039037528d8394bd5df7835f2a7c041a0b6bad2b5edaad2228a7aaeba"), looks := false }, kinds := [], alts := [], laidByText := true, laidKinds := [.data, .pinned], laidTests := true, laidLooks := .later }
def LiftRightCardSaid : Prop := Claim7.holds Tryz.pinned (.plain (OpenSpec.ofChange liftRightSpec)) liftRightCard

/-- THE TIED CARD OF 'pantographlaw14.LiftFlat'. -/
def liftFlatCard : Claim7 := { stood := { row := liftFlatRow, standIns := [], harness := (true, "858c972039037528d8394bd5df7835f2a7c041a0b6bad2b5edaad2228a7aaeba"), looks := false }, kinds := [], alts := [], laidByText := true, laidKinds := [.data, .pinned], laidTests := true, laidLooks := .later }
def LiftFlatCardSaid : Prop := Claim7.holds Tryz.pinned (.plain (OpenSpec.ofChange liftFlatSpec)) liftFlatCard

/-- THE TIED CARD OF 'pantographlaw14.LiftNames'. -/
def liftNamesCard : Claim7 := { stood := { row := liftNamesRow, standIns := [], harness := (true, "858c972039037528d8394bd5df7835f2a7c041a0b6bad2b5edaad2228a7aaeba"), looks := false }, kinds := [], alts := [], laidByText := true, laidKinds := [.data, .pinned], laidTests := true, laidLooks := .later }
def LiftNamesCardSaid : Prop := Claim7.holds Tryz.pinned (.plain (OpenSpec.ofChange liftNamesSpec)) liftNamesCard

/-- THE TIED CARD OF 'pantographlaw14.LiftCallees'. -/
def liftCalleesCard : Claim7 := { stood := { row := liftCalleesRow, standIns := [], harness := (true, "858c972039037528d8394bd5df7835f2a7c041a0b6bad2b5edaad2228a7aaeba"), looks := false }, kinds := [], alts := [], laidByText := true, laidKinds := [.data, .pinned], laidTests := true, laidLooks := .later }
def LiftCalleesCardSaid : Prop := Claim7.holds Tryz.pinned (.plain (OpenSpec.ofChange liftCalleesSpec)) liftCalleesCard

/-- THE SECOND FORM's CARD OF 'pantographlaw14.LiftLifts'. -/
def liftLiftsUptoCard : Claim7 := { stood := { row := liftLiftsUptoRow, standIns := [], harness := (true, "858c972039037528d8394bd5df7835f2a7c041a0b6bad2b5edaad2228a7aaeba"), looks := false }, kinds := [], alts := [], laidByText := true, laidKinds := [.data, .pinned], laidTests := true, laidLooks := .later }
def LiftLiftsUptoCardSaid : Prop := Claim7.holds Tryz.pinned (.plain (OpenSpec.upto liftLiftsSpec)) liftLiftsUptoCard

/-- THE SECOND FORM's CARD OF 'pantographlaw14.LiftRight'. -/
def liftRightUptoCard : Claim7 := { stood := { row := liftRightUptoRow, standIns := [], harness := (true, "858c972039037528d8394bd5df7835f2a7c041a0b6bad2b5edaad2228a7aaeba"), looks := false }, kinds := [], alts := [], laidByText := true, laidKinds := [.data, .pinned], laidTests := true, laidLooks := .later }
def LiftRightUptoCardSaid : Prop := Claim7.holds Tryz.pinned (.plain (OpenSpec.upto liftRightSpec)) liftRightUptoCard

/-- THE SECOND FORM's CARD OF 'pantographlaw14.LiftFlat'. -/
def liftFlatUptoCard : Claim7 := { stood := { row := liftFlatUptoRow, standIns := [], harness := (true, "858c972039037528d8394bd5df7835f2a7c041a0b6bad2b5edaad2228a7aaeba"), looks := false }, kinds := [], alts := [], laidByText := true, laidKinds := [.data, .pinned], laidTests := true, laidLooks := .later }
def LiftFlatUptoCardSaid : Prop := Claim7.holds Tryz.pinned (.plain (OpenSpec.upto liftFlatSpec)) liftFlatUptoCard

/-- THE SECOND FORM's CARD OF 'pantographlaw14.LiftNames'. -/
def liftNamesUptoCard : Claim7 := { stood := { row := liftNamesUptoRow, standIns := [], harness := (true, "858c972039037528d8394bd5df7835f2a7c041a0b6bad2b5edaad2228a7aaeba"), looks := false }, kinds := [], alts := [], laidByText := true, laidKinds := [.data, .pinned], laidTests := true, laidLooks := .later }
def LiftNamesUptoCardSaid : Prop := Claim7.holds Tryz.pinned (.plain (OpenSpec.upto liftNamesSpec)) liftNamesUptoCard

/-- THE SECOND FORM's CARD OF 'pantographlaw14.LiftCallees'. -/
def liftCalleesUptoCard : Claim7 := { stood := { row := liftCalleesUptoRow, standIns := [], harness := (true, "858c972039037528d8394bd5df7835f2a7c041a0b6bad2b5edaad2228a7aaeba"), looks := false }, kinds := [], alts := [], laidByText := true, laidKinds := [.data, .pinned], laidTests := true, laidLooks := .later }
def LiftCalleesUptoCardSaid : Prop := Claim7.holds Tryz.pinned (.plain (OpenSpec.upto liftCalleesSpec)) liftCalleesUptoCard
end Rows
end Go.Proofs.YtlflapoljegmoaaGreatDoor
