/-
  DERIVED. GIVEN WITH THE SEED: THE CARDS: each row of YthpdfkhmhaobgaaDoorRows.lean that lists a variable, with what it lists TIED to the program's text (the seventh form; the later family's looks); each row that meets fmt, with fmt's text TOLD by the authors' own Lean function (tested against real Go, not proved from fmt's source: count such statements apart). THE CARD IS WHAT COUNTS. Prove the row's statement (the work); the ties are given (YthpdfkhmhaobgaaDoorTie.lean); close each card by the builder's one call (the guide's Derived/Test/ToyasCard.lean, 'card_holds'). Laid BY PROGRAM, IN A SANDBOX (cutbox-door.mjs). By AI agents, Wed Nov 11 2026. No macro, syntax, notation, axiom, sorry.
-/
import Derived.Test.YthpdfkhmhaobgaaDoorRows
import GoSem.ClaimSeven
namespace Go.Proofs.YthpdfkhmhaobgaaDoor
namespace Rows

/-- THE TIED CARD OF 'lodestonelaw11.LpoGreater'. -/
def lpoGreaterCard : Claim7 := { stood := { row := lpoGreaterRow, standIns := [], harness := (true, "3f66046266da91f10cb3ad21b815b2fe7337e355eda2573b25daaede72e070bd"), looks := true }, kinds := [], alts := [], laidByText := true, laidKinds := [.data, .pinned], laidTests := true, laidLooks := .later }
def LpoGreaterCardSaid : Prop := Claim7.holds Tryd.pinned (.plain (OpenSpec.ofChange lpoGreaterSpec)) lpoGreaterCard

/-- THE TIED CARD OF 'lodestonelaw11.LpoOrients'. -/
def lpoOrientsCard : Claim7 := { stood := { row := lpoOrientsRow, standIns := [], harness := (true, "3f66046266da91f10cb3ad21b815b2fe7337e355eda2573b25daaede72e070bd"), looks := true }, kinds := [], alts := [], laidByText := true, laidKinds := [.data, .pinned], laidTests := true, laidLooks := .later }
def LpoOrientsCardSaid : Prop := Claim7.holds Tryd.pinned (.plain (OpenSpec.ofChange lpoOrientsSpec)) lpoOrientsCard

/-- THE TIED CARD OF 'lodestonelaw11.LpoOrder'. -/
def lpoOrderCard : Claim7 := { stood := { row := lpoOrderRow, standIns := [], harness := (true, "3f66046266da91f10cb3ad21b815b2fe7337e355eda2573b25daaede72e070bd"), looks := true }, kinds := [], alts := [], laidByText := true, laidKinds := [.data, .pinned], laidTests := true, laidLooks := .later }
def LpoOrderCardSaid : Prop := Claim7.holds Tryd.pinned (.plain (OpenSpec.ofChange lpoOrderSpec)) lpoOrderCard

/-- THE TIED CARD OF 'lodestonelaw11.LpoKept'. -/
def lpoKeptCard : Claim7 := { stood := { row := lpoKeptRow, standIns := [], harness := (true, "3f66046266da91f10cb3ad21b815b2fe7337e355eda2573b25daaede72e070bd"), looks := true }, kinds := [], alts := [], laidByText := true, laidKinds := [.data, .pinned], laidTests := true, laidLooks := .later }
def LpoKeptCardSaid : Prop := Claim7.holds Tryd.pinned (.plain (OpenSpec.ofChange lpoKeptSpec)) lpoKeptCard

/-- THE TIED CARD OF 'lodestonelaw11.LpoMore'. -/
def lpoMoreCard : Claim7 := { stood := { row := lpoMoreRow, standIns := [], harness := (true, "3f66046266da91f10cb3ad21b815b2fe7337e355eda2573b25daaede72e070bd"), looks := true }, kinds := [], alts := [], laidByText := true, laidKinds := [.data, .pinned], laidTests := true, laidLooks := .later }
def LpoMoreCardSaid : Prop := Claim7.holds Tryd.pinned (.plain (OpenSpec.ofChange lpoMoreSpec)) lpoMoreCard

/-- THE TIED CARD OF 'lodestonelaw11.LpoTotal'. -/
def lpoTotalCard : Claim7 := { stood := { row := lpoTotalRow, standIns := [], harness := (true, "3f66046266da91f10cb3ad21b815b2fe7337e355eda2573b25daaede72e070bd"), looks := true }, kinds := [], alts := [], laidByText := true, laidKinds := [.data, .pinned], laidTests := true, laidLooks := .later }
def LpoTotalCardSaid : Prop := Claim7.holds Tryd.pinned (.plain (OpenSpec.ofChange lpoTotalSpec)) lpoTotalCard

/-- THE TIED CARD OF 'lodestonelaw11.LpoNamed'. -/
def lpoNamedCard : Claim7 := { stood := { row := lpoNamedRow, standIns := [], harness := (true, "3f66046266da91f10cb3ad21b815b2fe7337e355eda2573b25daaede72e070bd"), looks := true }, kinds := [], alts := [], laidByText := true, laidKinds := [.data, .pinned], laidTests := true, laidLooks := .later }
def LpoNamedCardSaid : Prop := Claim7.holds Tryd.pinned (.plain (OpenSpec.ofChange lpoNamedSpec)) lpoNamedCard

/-- THE SECOND FORM's CARD OF 'lodestonelaw11.LpoGreater'. -/
def lpoGreaterUptoCard : Claim7 := { stood := { row := lpoGreaterUptoRow, standIns := [], harness := (true, "3f66046266da91f10cb3ad21b815b2fe7337e355eda2573b25daaede72e070bd"), looks := true }, kinds := [], alts := [], laidByText := true, laidKinds := [.data, .pinned], laidTests := true, laidLooks := .later }
def LpoGreaterUptoCardSaid : Prop := Claim7.holds Tryd.pinned (.plain (OpenSpec.upto lpoGreaterSpec)) lpoGreaterUptoCard

/-- THE SECOND FORM's CARD OF 'lodestonelaw11.LpoOrients'. -/
def lpoOrientsUptoCard : Claim7 := { stood := { row := lpoOrientsUptoRow, standIns := [], harness := (true, "3f66046266da91f10cb3ad21b815b2fe7337e355eda2573b25daaede72e070bd"), looks := true }, kinds := [], alts := [], laidByText := true, laidKinds := [.data, .pinned], laidTests := true, laidLooks := .later }
def LpoOrientsUptoCardSaid : Prop := Claim7.holds Tryd.pinned (.plain (OpenSpec.upto lpoOrientsSpec)) lpoOrientsUptoCard

/-- THE SECOND FORM's CARD OF 'lodestonelaw11.LpoOrder'. -/
def lpoOrderUptoCard : Claim7 := { stood := { row := lpoOrderUptoRow, standIns := [], harness := (true, "3f66046266da91f10cb3ad21b815b2fe7337e355eda2573b25daaede72e070bd"), looks := true }, kinds := [], alts := [], laidByText := true, laidKinds := [.data, .pinned], laidTests := true, laidLooks := .later }
def LpoOrderUptoCardSaid : Prop := Claim7.holds Tryd.pinned (.plain (OpenSpec.upto lpoOrderSpec)) lpoOrderUptoCard

/-- THE SECOND FORM's CARD OF 'lodestonelaw11.LpoKept'. -/
def lpoKeptUptoCard : Claim7 := { stood := { row := lpoKeptUptoRow, standIns := [], harness := (true, "3f66046266da91f10cb3ad21b815b2fe7337e355eda2573b25daaede72e070bd"), looks := true }, kinds := [], alts := [], laidByText := true, laidKinds := [.data, .pinned], laidTests := true, laidLooks := .later }
def LpoKeptUptoCardSaid : Prop := Claim7.holds Tryd.pinned (.plain (OpenSpec.upto lpoKeptSpec)) lpoKeptUptoCard

/-- THE SECOND FORM's CARD OF 'lodestonelaw11.LpoMore'. -/
def lpoMoreUptoCard : Claim7 := { stood := { row := lpoMoreUptoRow, standIns := [], harness := (true, "3f66046266da91f10cb3ad21b815b2fe7337e355eda2573b25daaede72e070bd"), looks := true }, kinds := [], alts := [], laidByText := true, laidKinds := [.data, .pinned], laidTests := true, laidLooks := .later }
def LpoMoreUptoCardSaid : Prop := Claim7.holds Tryd.pinned (.plain (OpenSpec.upto lpoMoreSpec)) lpoMoreUptoCard

/-- THE SECOND FORM's CARD OF 'lodestonelaw11.LpoTotal'. -/
def lpoTotalUptoCard : Claim7 := { stood := { row := lpoTotalUptoRow, standIns := [], harness := (true, "3f66046266da91f10cb3ad21b815b2fe7337e355eda2573b25daaede72e070bd"), looks := true }, kinds := [], alts := [], laidByText := true, laidKinds := [.data, .pinned], laidTests := true, laidLooks := .later }
def LpoTotalUptoCardSaid : Prop := Claim7.holds Tryd.pinned (.plain (OpenSpec.upto lpoTotalSpec)) lpoTotalUptoCard

/-- THE SECOND FORM's CARD OF 'lodestonelaw11.LpoNamed'. -/
def lpoNamedUptoCard : Claim7 := { stood := { row := lpoNamedUptoRow, standIns := [], harness := (true, "3f66046266da91f10cb3ad21b815b2fe7337e355eda2573b25daaede72e070bd"), looks := true }, kinds := [], alts := [], laidByText := true, laidKinds := [.data, .pinned], laidTests := true, laidLooks := .later }
def LpoNamedUptoCardSaid : Prop := Claim7.holds Tryd.pinned (.plain (OpenSpec.upto lpoNamedSpec)) lpoNamedUptoCard
end Rows
end Go.Proofs.YthpdfkhmhaobgaaDoor
