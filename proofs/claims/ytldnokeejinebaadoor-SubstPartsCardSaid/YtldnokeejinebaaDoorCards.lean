/-
  DERIVED. GIVEN WITH THE SEED: THE CARDS: each row of YtldnokeejinebaaDoorRows.lean that lists a variable, with what it lists TIED to the program's text (the seventh form; the later family's looks); each row that meets fmt, with fmt's text TOLD by the authors' own Lean function (tested against real Go, not proved from fmt's source: count such statements apart). THE CARD IS WHAT COUNTS. Prove the row's statement (the work); the ties are given (YtldnokeejinebaaDoorTie.lean); close each card by the builder's one call (the guide's Derived/Test/ToyasCard.lean, 'card_holds'). Laid BY PROGRAM, IN A SANDBOX (cutbox-door.mjs). By AI agents, Wed Nov 11 2026. No macro, syntax, notation, axiom, sorry.
-/
import Derived.Test.YtldnokeejinebaaDoorRows
import GoSem.ClaimSeven
namespace Go.Proofs.YtldnokeejinebaaDoor
namespace Rows

/-- THE TIED CARD OF 'lodestonelaw04.SubstChecks'. -/
def substChecksCard : Claim7 := { stood := { row := substChecksRow, standIns := [], harness := (true, "6d33cbca59682e03d01c2d8a2b17523f2e47da087f4be7f9e16b959a5795b5dc"), looks := true }, kinds := [], alts := [], laidByText := true, laidKinds := [.data, .pinned], laidTests := true, laidLooks := .later }
def SubstChecksCardSaid : Prop := Claim7.holds Tryd.pinned (.plain (OpenSpec.ofChange substChecksSpec)) substChecksCard

/-- THE TIED CARD OF 'lodestonelaw04.SubstApplies'. -/
def substAppliesCard : Claim7 := { stood := { row := substAppliesRow, standIns := [], harness := (true, "6d33cbca59682e03d01c2d8a2b17523f2e47da087f4be7f9e16b959a5795b5dc"), looks := true }, kinds := [], alts := [], laidByText := true, laidKinds := [.data, .pinned], laidTests := true, laidLooks := .later }
def SubstAppliesCardSaid : Prop := Claim7.holds Tryd.pinned (.plain (OpenSpec.ofChange substAppliesSpec)) substAppliesCard

/-- THE TIED CARD OF 'lodestonelaw04.SubstShifts'. -/
def substShiftsCard : Claim7 := { stood := { row := substShiftsRow, standIns := [], harness := (true, "6d33cbca59682e03d01c2d8a2b17523f2e47da087f4be7f9e16b959a5795b5dc"), looks := true }, kinds := [], alts := [], laidByText := true, laidKinds := [.data, .pinned], laidTests := true, laidLooks := .later }
def SubstShiftsCardSaid : Prop := Claim7.holds Tryd.pinned (.plain (OpenSpec.ofChange substShiftsSpec)) substShiftsCard

/-- THE TIED CARD OF 'lodestonelaw04.SubstCanons'. -/
def substCanonsCard : Claim7 := { stood := { row := substCanonsRow, standIns := [], harness := (true, "6d33cbca59682e03d01c2d8a2b17523f2e47da087f4be7f9e16b959a5795b5dc"), looks := true }, kinds := [], alts := [], laidByText := true, laidKinds := [.data, .pinned], laidTests := true, laidLooks := .later }
def SubstCanonsCardSaid : Prop := Claim7.holds Tryd.pinned (.plain (OpenSpec.ofChange substCanonsSpec)) substCanonsCard

/-- THE TIED CARD OF 'lodestonelaw04.SubstAfter'. -/
def substAfterCard : Claim7 := { stood := { row := substAfterRow, standIns := [], harness := (true, "6d33cbca59682e03d01c2d8a2b17523f2e47da087f4be7f9e16b959a5795b5dc"), looks := true }, kinds := [], alts := [], laidByText := true, laidKinds := [.data, .pinned], laidTests := true, laidLooks := .later }
def SubstAfterCardSaid : Prop := Claim7.holds Tryd.pinned (.plain (OpenSpec.ofChange substAfterSpec)) substAfterCard

/-- THE TIED CARD OF 'lodestonelaw04.SubstNumbers'. -/
def substNumbersCard : Claim7 := { stood := { row := substNumbersRow, standIns := [], harness := (true, "6d33cbca59682e03d01c2d8a2b17523f2e47da087f4be7f9e16b959a5795b5dc"), looks := true }, kinds := [], alts := [], laidByText := true, laidKinds := [.data, .pinned], laidTests := true, laidLooks := .later }
def SubstNumbersCardSaid : Prop := Claim7.holds Tryd.pinned (.plain (OpenSpec.ofChange substNumbersSpec)) substNumbersCard

/-- THE TIED CARD OF 'lodestonelaw04.SubstParts'. -/
def substPartsCard : Claim7 := { stood := { row := substPartsRow, standIns := [], harness := (true, "6d33cbca59682e03d01c2d8a2b17523f2e47da087f4be7f9e16b959a5795b5dc"), looks := true }, kinds := [], alts := [], laidByText := true, laidKinds := [.data, .pinned], laidTests := true, laidLooks := .later }
def SubstPartsCardSaid : Prop := Claim7.holds Tryd.pinned (.plain (OpenSpec.ofChange substPartsSpec)) substPartsCard

/-- THE SECOND FORM's CARD OF 'lodestonelaw04.SubstChecks'. -/
def substChecksUptoCard : Claim7 := { stood := { row := substChecksUptoRow, standIns := [], harness := (true, "6d33cbca59682e03d01c2d8a2b17523f2e47da087f4be7f9e16b959a5795b5dc"), looks := true }, kinds := [], alts := [], laidByText := true, laidKinds := [.data, .pinned], laidTests := true, laidLooks := .later }
def SubstChecksUptoCardSaid : Prop := Claim7.holds Tryd.pinned (.plain (OpenSpec.upto substChecksSpec)) substChecksUptoCard

/-- THE SECOND FORM's CARD OF 'lodestonelaw04.SubstApplies'. -/
def substAppliesUptoCard : Claim7 := { stood := { row := substAppliesUptoRow, standIns := [], harness := (true, "6d33cbca59682e03d01c2d8a2b17523f2e47da087f4be7f9e16b959a5795b5dc"), looks := true }, kinds := [], alts := [], laidByText := true, laidKinds := [.data, .pinned], laidTests := true, laidLooks := .later }
def SubstAppliesUptoCardSaid : Prop := Claim7.holds Tryd.pinned (.plain (OpenSpec.upto substAppliesSpec)) substAppliesUptoCard

/-- THE SECOND FORM's CARD OF 'lodestonelaw04.SubstShifts'. -/
def substShiftsUptoCard : Claim7 := { stood := { row := substShiftsUptoRow, standIns := [], harness := (true, "6d33cbca59682e03d01c2d8a2b17523f2e47da087f4be7f9e16b959a5795b5dc"), looks := true }, kinds := [], alts := [], laidByText := true, laidKinds := [.data, .pinned], laidTests := true, laidLooks := .later }
def SubstShiftsUptoCardSaid : Prop := Claim7.holds Tryd.pinned (.plain (OpenSpec.upto substShiftsSpec)) substShiftsUptoCard

/-- THE SECOND FORM's CARD OF 'lodestonelaw04.SubstCanons'. -/
def substCanonsUptoCard : Claim7 := { stood := { row := substCanonsUptoRow, standIns := [], harness := (true, "6d33cbca59682e03d01c2d8a2b17523f2e47da087f4be7f9e16b959a5795b5dc"), looks := true }, kinds := [], alts := [], laidByText := true, laidKinds := [.data, .pinned], laidTests := true, laidLooks := .later }
def SubstCanonsUptoCardSaid : Prop := Claim7.holds Tryd.pinned (.plain (OpenSpec.upto substCanonsSpec)) substCanonsUptoCard

/-- THE SECOND FORM's CARD OF 'lodestonelaw04.SubstAfter'. -/
def substAfterUptoCard : Claim7 := { stood := { row := substAfterUptoRow, standIns := [], harness := (true, "6d33cbca59682e03d01c2d8a2b17523f2e47da087f4be7f9e16b959a5795b5dc"), looks := true }, kinds := [], alts := [], laidByText := true, laidKinds := [.data, .pinned], laidTests := true, laidLooks := .later }
def SubstAfterUptoCardSaid : Prop := Claim7.holds Tryd.pinned (.plain (OpenSpec.upto substAfterSpec)) substAfterUptoCard

/-- THE SECOND FORM's CARD OF 'lodestonelaw04.SubstNumbers'. -/
def substNumbersUptoCard : Claim7 := { stood := { row := substNumbersUptoRow, standIns := [], harness := (true, "6d33cbca59682e03d01c2d8a2b17523f2e47da087f4be7f9e16b959a5795b5dc"), looks := true }, kinds := [], alts := [], laidByText := true, laidKinds := [.data, .pinned], laidTests := true, laidLooks := .later }
def SubstNumbersUptoCardSaid : Prop := Claim7.holds Tryd.pinned (.plain (OpenSpec.upto substNumbersSpec)) substNumbersUptoCard

/-- THE SECOND FORM's CARD OF 'lodestonelaw04.SubstParts'. -/
def substPartsUptoCard : Claim7 := { stood := { row := substPartsUptoRow, standIns := [], harness := (true, "6d33cbca59682e03d01c2d8a2b17523f2e47da087f4be7f9e16b959a5795b5dc"), looks := true }, kinds := [], alts := [], laidByText := true, laidKinds := [.data, .pinned], laidTests := true, laidLooks := .later }
def SubstPartsUptoCardSaid : Prop := Claim7.holds Tryd.pinned (.plain (OpenSpec.upto substPartsSpec)) substPartsUptoCard
end Rows
end Go.Proofs.YtldnokeejinebaaDoor
