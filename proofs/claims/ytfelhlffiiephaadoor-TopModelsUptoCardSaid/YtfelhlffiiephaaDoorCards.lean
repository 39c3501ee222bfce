/-
  DERIVED. GIVEN WITH THE SEED: THE CARDS: each row of YtfelhlffiiephaaDoorRows.lean that lists a variable, with what it lists TIED to the program's text (the seventh form; the later family's looks); each row that meets fmt, with fmt's text TOLD by the authors' own Lean function (tested against real Go, not proved from fmt's source: count such statements apart). THE CARD IS WHAT COUNTS. Prove the row's statement (the work); the ties are given (YtfelhlffiiephaaDoorTie.lean); close each card by the builder's one call (the guide's Derived/Test/ToyasCard.lean, 'card_holds'). Laid BY PROGRAM, IN A SANDBOX (cutbox-door.mjs). By AI agents, Wed Nov 11 2026. No macro, syntax, notation, axiom, sorry.
-/
import Derived.Test.YtfelhlffiiephaaDoorRows
import GoSem.ClaimSeven
namespace Go.Proofs.YtfelhlffiiephaaDoor
namespace Rows

/-- THE TIED CARD OF 'lodestonetop.TopModels'. -/
def topModelsCard : Claim7 := { stood := { row := topModelsRow, standIns := [], harness := (true, "c8c7c0cb09fd83a3c116a54d29eea11094580103963bcdb780c8836036af29f4"), looks := true }, kinds := [], alts := [], laidByText := true, laidKinds := [.data, .pinned], laidTests := true, laidLooks := .later }
def TopModelsCardSaid : Prop := Claim7.holds Tryd.pinned (.plain (OpenSpec.ofChange topModelsSpec)) topModelsCard

/-- THE SECOND FORM's CARD OF 'lodestonetop.TopModels'. -/
def topModelsUptoCard : Claim7 := { stood := { row := topModelsUptoRow, standIns := [], harness := (true, "c8c7c0cb09fd83a3c116a54d29eea11094580103963bcdb780c8836036af29f4"), looks := true }, kinds := [], alts := [], laidByText := true, laidKinds := [.data, .pinned], laidTests := true, laidLooks := .later }
def TopModelsUptoCardSaid : Prop := Claim7.holds Tryd.pinned (.plain (OpenSpec.upto topModelsSpec)) topModelsUptoCard
end Rows
end Go.Proofs.YtfelhlffiiephaaDoor
