/-
  DERIVED. GIVEN WITH THE SEED: THE CARDS: each row of YtfhkbfofjjmbaaaDoorRows.lean that lists a variable, with what it lists TIED to the program's text (the seventh form; the later family's looks); each row that meets fmt, with fmt's text TOLD by the authors' own Lean function (tested against real Go, not proved from fmt's source: count such statements apart). THE CARD IS WHAT COUNTS. Prove the row's statement (the work); the ties are given (YtfhkbfofjjmbaaaDoorTie.lean); close each card by the builder's one call (the guide's Derived/Test/ToyasCard.lean, 'card_holds'). Laid BY PROGRAM, IN A SANDBOX (cutbox-door.mjs). By AI agents, Wed Nov 11 2026. No macro, syntax, notation, axiom, sorry.
-/
import Derived.Test.YtfhkbfofjjmbaaaDoorRows
import GoSem.ClaimSeven
namespace Go.Proofs.YtfhkbfofjjmbaaaDoor
namespace Rows

/-- THE TIED CARD OF 'lodestonelaw03.TermSigs'. -/
def termSigsCard : Claim7 := { stood := { row := termSigsRow, standIns := [], harness := (true, "f86eb0427284854725fc0e81492d7fb6dde029466deeefc6a94096bcf9a5dcbe"), looks := true }, kinds := [], alts := [], laidByText := true, laidKinds := [.data, .pinned], laidTests := true, laidLooks := .later }
def TermSigsCardSaid : Prop := Claim7.holds Tryd.pinned (.plain (OpenSpec.ofChange termSigsSpec)) termSigsCard

/-- THE TIED CARD OF 'lodestonelaw03.TermChecks'. -/
def termChecksCard : Claim7 := { stood := { row := termChecksRow, standIns := [], harness := (true, "f86eb0427284854725fc0e81492d7fb6dde029466deeefc6a94096bcf9a5dcbe"), looks := true }, kinds := [], alts := [], laidByText := true, laidKinds := [.data, .pinned], laidTests := true, laidLooks := .later }
def TermChecksCardSaid : Prop := Claim7.holds Tryd.pinned (.plain (OpenSpec.ofChange termChecksSpec)) termChecksCard

/-- THE TIED CARD OF 'lodestonelaw03.TermPlaces'. -/
def termPlacesCard : Claim7 := { stood := { row := termPlacesRow, standIns := [], harness := (true, "f86eb0427284854725fc0e81492d7fb6dde029466deeefc6a94096bcf9a5dcbe"), looks := true }, kinds := [], alts := [], laidByText := true, laidKinds := [.data, .pinned], laidTests := true, laidLooks := .later }
def TermPlacesCardSaid : Prop := Claim7.holds Tryd.pinned (.plain (OpenSpec.ofChange termPlacesSpec)) termPlacesCard

/-- THE TIED CARD OF 'lodestonelaw03.TermReplaces'. -/
def termReplacesCard : Claim7 := { stood := { row := termReplacesRow, standIns := [], harness := (true, "f86eb0427284854725fc0e81492d7fb6dde029466deeefc6a94096bcf9a5dcbe"), looks := true }, kinds := [], alts := [], laidByText := true, laidKinds := [.data, .pinned], laidTests := true, laidLooks := .later }
def TermReplacesCardSaid : Prop := Claim7.holds Tryd.pinned (.plain (OpenSpec.ofChange termReplacesSpec)) termReplacesCard

/-- THE TIED CARD OF 'lodestonelaw03.TermParts'. -/
def termPartsCard : Claim7 := { stood := { row := termPartsRow, standIns := [], harness := (true, "f86eb0427284854725fc0e81492d7fb6dde029466deeefc6a94096bcf9a5dcbe"), looks := true }, kinds := [], alts := [], laidByText := true, laidKinds := [.data, .pinned], laidTests := true, laidLooks := .later }
def TermPartsCardSaid : Prop := Claim7.holds Tryd.pinned (.plain (OpenSpec.ofChange termPartsSpec)) termPartsCard

/-- THE TIED CARD OF 'lodestonelaw03.TermSwaps'. -/
def termSwapsCard : Claim7 := { stood := { row := termSwapsRow, standIns := [], harness := (true, "f86eb0427284854725fc0e81492d7fb6dde029466deeefc6a94096bcf9a5dcbe"), looks := true }, kinds := [], alts := [], laidByText := true, laidKinds := [.data, .pinned], laidTests := true, laidLooks := .later }
def TermSwapsCardSaid : Prop := Claim7.holds Tryd.pinned (.plain (OpenSpec.ofChange termSwapsSpec)) termSwapsCard

/-- THE TIED CARD OF 'lodestonelaw03.TermRight'. -/
def termRightCard : Claim7 := { stood := { row := termRightRow, standIns := [], harness := (true, "f86eb0427284854725fc0e81492d7fb6dde029466deeefc6a94096bcf9a5dcbe"), looks := true }, kinds := [], alts := [], laidByText := true, laidKinds := [.data, .pinned], laidTests := true, laidLooks := .later }
def TermRightCardSaid : Prop := Claim7.holds Tryd.pinned (.plain (OpenSpec.ofChange termRightSpec)) termRightCard

/-- THE SECOND FORM's CARD OF 'lodestonelaw03.TermSigs'. -/
def termSigsUptoCard : Claim7 := { stood := { row := termSigsUptoRow, standIns := [], harness := (true, "f86eb0427284854725fc0e81492d7fb6dde029466deeefc6a94096bcf9a5dcbe"), looks := true }, kinds := [], alts := [], laidByText := true, laidKinds := [.data, .pinned], laidTests := true, laidLooks := .later }
def TermSigsUptoCardSaid : Prop := Claim7.holds Tryd.pinned (.plain (OpenSpec.upto termSigsSpec)) termSigsUptoCard

/-- THE SECOND FORM's CARD OF 'lodestonelaw03.TermChecks'. -/
def termChecksUptoCard : Claim7 := { stood := { row := termChecksUptoRow, standIns := [], harness := (true, "f86eb0427284854725fc0e81492d7fb6dde029466deeefc6a94096bcf9a5dcbe"), looks := true }, kinds := [], alts := [], laidByText := true, laidKinds := [.data, .pinned], laidTests := true, laidLooks := .later }
def TermChecksUptoCardSaid : Prop := Claim7.holds Tryd.pinned (.plain (OpenSpec.upto termChecksSpec)) termChecksUptoCard

/-- THE SECOND FORM's CARD OF 'lodestonelaw03.TermPlaces'. -/
def termPlacesUptoCard : Claim7 := { stood := { row := termPlacesUptoRow, standIns := [], harness := (true, "f86eb0427284854725fc0e81492d7fb6dde029466deeefc6a94096bcf9a5dcbe"), looks := true }, kinds := [], alts := [], laidByText := true, laidKinds := [.data, .pinned], laidTests := true, laidLooks := .later }
def TermPlacesUptoCardSaid : Prop := Claim7.holds Tryd.pinned (.plain (OpenSpec.upto termPlacesSpec)) termPlacesUptoCard

/-- THE SECOND FORM's CARD OF 'lodestonelaw03.TermReplaces'. -/
def termReplacesUptoCard : Claim7 := { stood := { row := termReplacesUptoRow, standIns := [], harness := (true, "f86eb0427284854725fc0e81492d7fb6dde029466deeefc6a94096bcf9a5dcbe"), looks := true }, kinds := [], alts := [], laidByText := true, laidKinds := [.data, .pinned], laidTests := true, laidLooks := .later }
def TermReplacesUptoCardSaid : Prop := Claim7.holds Tryd.pinned (.plain (OpenSpec.upto termReplacesSpec)) termReplacesUptoCard

/-- THE SECOND FORM's CARD OF 'lodestonelaw03.TermParts'. -/
def termPartsUptoCard : Claim7 := { stood := { row := termPartsUptoRow, standIns := [], harness := (true, "f86eb0427284854725fc0e81492d7fb6dde029466deeefc6a94096bcf9a5dcbe"), looks := true }, kinds := [], alts := [], laidByText := true, laidKinds := [.data, .pinned], laidTests := true, laidLooks := .later }
def TermPartsUptoCardSaid : Prop := Claim7.holds Tryd.pinned (.plain (OpenSpec.upto termPartsSpec)) termPartsUptoCard

/-- THE SECOND FORM's CARD OF 'lodestonelaw03.TermSwaps'. -/
def termSwapsUptoCard : Claim7 := { stood := { row := termSwapsUptoRow, standIns := [], harness := (true, "f86eb0427284854725fc0e81492d7fb6dde029466deeefc6a94096bcf9a5dcbe"), looks := true }, kinds := [], alts := [], laidByText := true, laidKinds := [.data, .pinned], laidTests := true, laidLooks := .later }
def TermSwapsUptoCardSaid : Prop := Claim7.holds Tryd.pinned (.plain (OpenSpec.upto termSwapsSpec)) termSwapsUptoCard

/-- THE SECOND FORM's CARD OF 'lodestonelaw03.TermRight'. -/
def termRightUptoCard : Claim7 := { stood := { row := termRightUptoRow, standIns := [], harness := (true, "f86eb0427284854725fc0e81492d7fb6dde029466deeefc6a94096bcf9a5dcbe"), looks := true }, kinds := [], alts := [], laidByText := true, laidKinds := [.data, .pinned], laidTests := true, laidLooks := .later }
def TermRightUptoCardSaid : Prop := Claim7.holds Tryd.pinned (.plain (OpenSpec.upto termRightSpec)) termRightUptoCard
end Rows
end Go.Proofs.YtfhkbfofjjmbaaaDoor
