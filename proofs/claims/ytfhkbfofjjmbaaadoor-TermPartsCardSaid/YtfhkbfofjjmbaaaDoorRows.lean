/-
  NARROWER THAN 'FOR EVERY INPUT', by the rows' own cells (each row's printed sentence says how): TermSigs: laid · TermChecks: laid · TermPlaces: laid · TermReplaces: laid · TermParts: laid · TermSwaps: laid · TermRight: laid.
  DERIVED. THE GIVEN ROWS OF THIS SEAT. 7 by the template 'for every input the law returns true; each argument reads behind the call as it read before'; 0 by the template 'total and deterministic' (their statements: YtfhkbfofjjmbaaaDoorTotals.lean).
  GIVEN WITH THE SEED: the statements are not yours to turn. If you find one false, say at which input.
  Laid BY PROGRAM, IN A SANDBOX (cutbox-rows.mjs): the forced cells as the released guide's own fill.sh prints them over the translation 94c41c1a4b77b2cf… (all of the seat's roots in one cut). By AI agents, Wed Nov 11 2026. No macro, syntax, notation, axiom, sorry.
-/
import Derived.Test.YtfhkbfofjjmbaaaDoorChecked
import GoSem.PinnedTables
import GoSem.Claim
import GoSem.ClaimJoined
import GoSem.ClaimMapViews
import Derived.JoinedTies
import Derived.KernelRfl
namespace Go.Proofs.YtfhkbfofjjmbaaaDoor
/- THE CELL 'sum', in the pinned program and in every row, IS THE sha256 OF THE DUMP (.gsa) THAT YtfhkbfofjjmbaaaDoorProg.lean LOADS. Nothing in Lean hashes anything: it is a label: what it is worth is what the hold of that sum in a sandbox is worth. -/
noncomputable def Tryd.pinned : Pinned := { name := "ytfhkbfofjjmbaaadoor", sum := "94c41c1a4b77b2cf62aa271e649d10874b69fcfb3ccbe94906962a99d421295c", checked := Tryd.checked }
namespace Rows
def none {H : Type} : Left H := { results := [], args := [] }

/- WHAT THE LISTED PACKAGE-LEVEL VARIABLES READ AS WHEN THE CALL BEGINS. Each datum BY PROGRAM (the guide's laid-datum.mjs) off the statement by which the dump's own 'gosem.cut.vars' lays the variable. In a bare row this is a premise. The card (YtfhkbfofjjmbaaaDoorCards.lean) ties it to the program's text. -/
def laid_unicode_utf8_acceptRanges {H : Type} : DataW H := .agg [.agg [.lit (.int .u8 128), .lit (.int .u8 191)], .agg [.lit (.int .u8 160), .lit (.int .u8 191)], .agg [.lit (.int .u8 128), .lit (.int .u8 159)], .agg [.lit (.int .u8 144), .lit (.int .u8 191)], .agg [.lit (.int .u8 128), .lit (.int .u8 143)], .agg [.lit (.int .u8 0), .lit (.int .u8 0)], .agg [.lit (.int .u8 0), .lit (.int .u8 0)], .agg [.lit (.int .u8 0), .lit (.int .u8 0)], .agg [.lit (.int .u8 0), .lit (.int .u8 0)], .agg [.lit (.int .u8 0), .lit (.int .u8 0)], .agg [.lit (.int .u8 0), .lit (.int .u8 0)], .agg [.lit (.int .u8 0), .lit (.int .u8 0)], .agg [.lit (.int .u8 0), .lit (.int .u8 0)], .agg [.lit (.int .u8 0), .lit (.int .u8 0)], .agg [.lit (.int .u8 0), .lit (.int .u8 0)], .agg [.lit (.int .u8 0), .lit (.int .u8 0)]]
/-- One of Go's own tables, pinned by name: the form's constant. -/
def laid_unicode_utf8_first : DataW Unit := Go.Pinned.utf8First

/-- 'lodestonelaw03.TermSigs': WHATEVER THE INPUT: true; the input reads as it did. -/
def termSigsSpec : ChangeSpec := { name := "termSigs", fn := fun _ => fun
  | [d] => { results := [.lit (.bool true)], args := [d] }
  | _ => none }
def termSigsRow : OpenClaim := { program := "ytfhkbfofjjmbaaadoor", sum := "94c41c1a4b77b2cf62aa271e649d10874b69fcfb3ccbe94906962a99d421295c", func := "lodestone/lodestonelaw03.TermSigs", spec := "termSigs", unfollowed := true, recurses := true, named := ["unicode/utf8.first", "unicode/utf8.acceptRanges"], apart := false, laid := [("unicode/utf8.acceptRanges", laid_unicode_utf8_acceptRanges), ("unicode/utf8.first", laid_unicode_utf8_first)] }
def TermSigsSaid : Prop := termSigsRow.holds Tryd.pinned (OpenSpec.ofChange termSigsSpec)

/-- ITS FALSE NEIGHBOUR: 'it returns false'. Refute it at one input. -/
def termSigsWrong : ChangeSpec := { name := "termSigs", fn := fun _ => fun
  | [d] => { results := [.lit (.bool false)], args := [d] }
  | _ => none }
def TermSigsWrongFalsely : Prop := termSigsRow.holds Tryd.pinned (OpenSpec.ofChange termSigsWrong)

/-- 'lodestonelaw03.TermChecks': WHATEVER THE INPUT: true; the input reads as it did. -/
def termChecksSpec : ChangeSpec := { name := "termChecks", fn := fun _ => fun
  | [d1, d2] => { results := [.lit (.bool true)], args := [d1, d2] }
  | _ => none }
def termChecksRow : OpenClaim := { program := "ytfhkbfofjjmbaaadoor", sum := "94c41c1a4b77b2cf62aa271e649d10874b69fcfb3ccbe94906962a99d421295c", func := "lodestone/lodestonelaw03.TermChecks", spec := "termChecks", unfollowed := true, recurses := true, named := ["unicode/utf8.first", "unicode/utf8.acceptRanges"], apart := false, laid := [("unicode/utf8.acceptRanges", laid_unicode_utf8_acceptRanges), ("unicode/utf8.first", laid_unicode_utf8_first)] }
def TermChecksSaid : Prop := termChecksRow.holds Tryd.pinned (OpenSpec.ofChange termChecksSpec)

/-- ITS FALSE NEIGHBOUR: 'it returns false'. Refute it at one input. -/
def termChecksWrong : ChangeSpec := { name := "termChecks", fn := fun _ => fun
  | [d1, d2] => { results := [.lit (.bool false)], args := [d1, d2] }
  | _ => none }
def TermChecksWrongFalsely : Prop := termChecksRow.holds Tryd.pinned (OpenSpec.ofChange termChecksWrong)

/-- 'lodestonelaw03.TermPlaces': WHATEVER THE INPUT: true; the input reads as it did. -/
def termPlacesSpec : ChangeSpec := { name := "termPlaces", fn := fun _ => fun
  | [d1, d2, d3] => { results := [.lit (.bool true)], args := [d1, d2, d3] }
  | _ => none }
def termPlacesRow : OpenClaim := { program := "ytfhkbfofjjmbaaadoor", sum := "94c41c1a4b77b2cf62aa271e649d10874b69fcfb3ccbe94906962a99d421295c", func := "lodestone/lodestonelaw03.TermPlaces", spec := "termPlaces", unfollowed := true, recurses := true, named := ["unicode/utf8.first", "unicode/utf8.acceptRanges"], apart := false, laid := [("unicode/utf8.acceptRanges", laid_unicode_utf8_acceptRanges), ("unicode/utf8.first", laid_unicode_utf8_first)] }
def TermPlacesSaid : Prop := termPlacesRow.holds Tryd.pinned (OpenSpec.ofChange termPlacesSpec)

/-- ITS FALSE NEIGHBOUR: 'it returns false'. Refute it at one input. -/
def termPlacesWrong : ChangeSpec := { name := "termPlaces", fn := fun _ => fun
  | [d1, d2, d3] => { results := [.lit (.bool false)], args := [d1, d2, d3] }
  | _ => none }
def TermPlacesWrongFalsely : Prop := termPlacesRow.holds Tryd.pinned (OpenSpec.ofChange termPlacesWrong)

/-- 'lodestonelaw03.TermReplaces': WHATEVER THE INPUT: true; the input reads as it did. -/
def termReplacesSpec : ChangeSpec := { name := "termReplaces", fn := fun _ => fun
  | [d1, d2, d3] => { results := [.lit (.bool true)], args := [d1, d2, d3] }
  | _ => none }
def termReplacesRow : OpenClaim := { program := "ytfhkbfofjjmbaaadoor", sum := "94c41c1a4b77b2cf62aa271e649d10874b69fcfb3ccbe94906962a99d421295c", func := "lodestone/lodestonelaw03.TermReplaces", spec := "termReplaces", unfollowed := true, recurses := true, named := ["unicode/utf8.first", "unicode/utf8.acceptRanges"], apart := false, laid := [("unicode/utf8.acceptRanges", laid_unicode_utf8_acceptRanges), ("unicode/utf8.first", laid_unicode_utf8_first)] }
def TermReplacesSaid : Prop := termReplacesRow.holds Tryd.pinned (OpenSpec.ofChange termReplacesSpec)

/-- ITS FALSE NEIGHBOUR: 'it returns false'. Refute it at one input. -/
def termReplacesWrong : ChangeSpec := { name := "termReplaces", fn := fun _ => fun
  | [d1, d2, d3] => { results := [.lit (.bool false)], args := [d1, d2, d3] }
  | _ => none }
def TermReplacesWrongFalsely : Prop := termReplacesRow.holds Tryd.pinned (OpenSpec.ofChange termReplacesWrong)

/-- 'lodestonelaw03.TermParts': WHATEVER THE INPUT: true; the input reads as it did. -/
def termPartsSpec : ChangeSpec := { name := "termParts", fn := fun _ => fun
  | [d1, d2] => { results := [.lit (.bool true)], args := [d1, d2] }
  | _ => none }
def termPartsRow : OpenClaim := { program := "ytfhkbfofjjmbaaadoor", sum := "94c41c1a4b77b2cf62aa271e649d10874b69fcfb3ccbe94906962a99d421295c", func := "lodestone/lodestonelaw03.TermParts", spec := "termParts", unfollowed := true, recurses := true, named := ["unicode/utf8.first", "unicode/utf8.acceptRanges"], apart := false, laid := [("unicode/utf8.acceptRanges", laid_unicode_utf8_acceptRanges), ("unicode/utf8.first", laid_unicode_utf8_first)] }
def TermPartsSaid : Prop := termPartsRow.holds Tryd.pinned (OpenSpec.ofChange termPartsSpec)

/-- ITS FALSE NEIGHBOUR: 'it returns false'. Refute it at one input. -/
def termPartsWrong : ChangeSpec := { name := "termParts", fn := fun _ => fun
  | [d1, d2] => { results := [.lit (.bool false)], args := [d1, d2] }
  | _ => none }
def TermPartsWrongFalsely : Prop := termPartsRow.holds Tryd.pinned (OpenSpec.ofChange termPartsWrong)

/-- 'lodestonelaw03.TermSwaps': WHATEVER THE INPUT: true; the input reads as it did. -/
def termSwapsSpec : ChangeSpec := { name := "termSwaps", fn := fun _ => fun
  | [d1, d2, d3] => { results := [.lit (.bool true)], args := [d1, d2, d3] }
  | _ => none }
def termSwapsRow : OpenClaim := { program := "ytfhkbfofjjmbaaadoor", sum := "94c41c1a4b77b2cf62aa271e649d10874b69fcfb3ccbe94906962a99d421295c", func := "lodestone/lodestonelaw03.TermSwaps", spec := "termSwaps", unfollowed := true, recurses := true, named := ["unicode/utf8.first", "unicode/utf8.acceptRanges"], apart := false, laid := [("unicode/utf8.acceptRanges", laid_unicode_utf8_acceptRanges), ("unicode/utf8.first", laid_unicode_utf8_first)] }
def TermSwapsSaid : Prop := termSwapsRow.holds Tryd.pinned (OpenSpec.ofChange termSwapsSpec)

/-- ITS FALSE NEIGHBOUR: 'it returns false'. Refute it at one input. -/
def termSwapsWrong : ChangeSpec := { name := "termSwaps", fn := fun _ => fun
  | [d1, d2, d3] => { results := [.lit (.bool false)], args := [d1, d2, d3] }
  | _ => none }
def TermSwapsWrongFalsely : Prop := termSwapsRow.holds Tryd.pinned (OpenSpec.ofChange termSwapsWrong)

/-- 'lodestonelaw03.TermRight': WHATEVER THE INPUT: true; the input reads as it did. -/
def termRightSpec : ChangeSpec := { name := "termRight", fn := fun _ => fun
  | [d1, d2, d3] => { results := [.lit (.bool true)], args := [d1, d2, d3] }
  | _ => none }
def termRightRow : OpenClaim := { program := "ytfhkbfofjjmbaaadoor", sum := "94c41c1a4b77b2cf62aa271e649d10874b69fcfb3ccbe94906962a99d421295c", func := "lodestone/lodestonelaw03.TermRight", spec := "termRight", unfollowed := true, recurses := true, named := ["unicode/utf8.first", "unicode/utf8.acceptRanges"], apart := false, laid := [("unicode/utf8.acceptRanges", laid_unicode_utf8_acceptRanges), ("unicode/utf8.first", laid_unicode_utf8_first)] }
def TermRightSaid : Prop := termRightRow.holds Tryd.pinned (OpenSpec.ofChange termRightSpec)

/-- ITS FALSE NEIGHBOUR: 'it returns false'. Refute it at one input. -/
def termRightWrong : ChangeSpec := { name := "termRight", fn := fun _ => fun
  | [d1, d2, d3] => { results := [.lit (.bool false)], args := [d1, d2, d3] }
  | _ => none }
def TermRightWrongFalsely : Prop := termRightRow.holds Tryd.pinned (OpenSpec.ofChange termRightWrong)

/- THE SECOND FORM. 'bulk': how many values and letters a reading holds, each counted each time it is reached (what is shared counts as often as it is met; a slice's spare places count too). A statement '..UptoSaid' is the law's where the arguments, and the package variables that the reading takes, are together of bulk at most 1048576: NARROWER than '..Said'. Prove '..Said' where nothing that the law and all that it calls make is longer than what came in: it says more and counts as full. Else prove '..UptoSaid'. A law counts once. -/
mutual
def uptoBulk {H : Type} : DataW H → Nat
  | .lit (.string bytes) => bytes.length + 1
  | .lit _ => 1
  | .nil => 1
  | .ptr d => uptoBulk d + 1
  | .slice elems spare => uptoBulkAll elems + uptoBulkAll spare + 1
  | .agg parts => uptoBulkAll parts + 1
  | .iface _ d => uptoBulk d + 1
  | .map entries => uptoBulkEntries entries + 1
  | .held _ => 1
def uptoBulkAll {H : Type} : List (DataW H) → Nat
  | [] => 0
  | d :: r => uptoBulk d + uptoBulkAll r
def uptoBulkEntries {H : Type} : List (Lit × DataW H) → Nat
  | [] => 0
  | x :: r => uptoBulkEntry x + uptoBulkEntries r
def uptoBulkEntry {H : Type} : Lit × DataW H → Nat
  | (.string bytes, d) => bytes.length + uptoBulk d + 1
  | (_, d) => uptoBulk d + 1
 end
def uptoSmall : (H : Type) → List (DataW H) → Bool := fun _ ds => decide (uptoBulkAll ds ≤ 1048576)
def OpenSpec.upto (s : _root_.Go.ChangeSpec) : _root_.Go.OpenSpec := { _root_.Go.OpenSpec.ofChange s with cond := some uptoSmall }

/-- 'lodestonelaw03.TermSigs', WHERE WHAT IT READS IS OF BULK AT MOST 1048576: true; the input reads as it did. -/
def termSigsUptoRow : OpenClaim := { program := "ytfhkbfofjjmbaaadoor", sum := "94c41c1a4b77b2cf62aa271e649d10874b69fcfb3ccbe94906962a99d421295c", func := "lodestone/lodestonelaw03.TermSigs", spec := "termSigs", unfollowed := true, recurses := true, named := ["unicode/utf8.first", "unicode/utf8.acceptRanges"], apart := false, laid := [("unicode/utf8.acceptRanges", laid_unicode_utf8_acceptRanges), ("unicode/utf8.first", laid_unicode_utf8_first)], narrowed := true }
def TermSigsUptoSaid : Prop := termSigsUptoRow.holds Tryd.pinned (OpenSpec.upto termSigsSpec)

/-- 'lodestonelaw03.TermChecks', WHERE WHAT IT READS IS OF BULK AT MOST 1048576: true; the input reads as it did. -/
def termChecksUptoRow : OpenClaim := { program := "ytfhkbfofjjmbaaadoor", sum := "94c41c1a4b77b2cf62aa271e649d10874b69fcfb3ccbe94906962a99d421295c", func := "lodestone/lodestonelaw03.TermChecks", spec := "termChecks", unfollowed := true, recurses := true, named := ["unicode/utf8.first", "unicode/utf8.acceptRanges"], apart := false, laid := [("unicode/utf8.acceptRanges", laid_unicode_utf8_acceptRanges), ("unicode/utf8.first", laid_unicode_utf8_first)], narrowed := true }
def TermChecksUptoSaid : Prop := termChecksUptoRow.holds Tryd.pinned (OpenSpec.upto termChecksSpec)

/-- 'lodestonelaw03.TermPlaces', WHERE WHAT IT READS IS OF BULK AT MOST 1048576: true; the input reads as it did. -/
def termPlacesUptoRow : OpenClaim := { program := "ytfhkbfofjjmbaaadoor", sum := "94c41c1a4b77b2cf62aa271e649d10874b69fcfb3ccbe94906962a99d421295c", func := "lodestone/lodestonelaw03.TermPlaces", spec := "termPlaces", unfollowed := true, recurses := true, named := ["unicode/utf8.first", "unicode/utf8.acceptRanges"], apart := false, laid := [("unicode/utf8.acceptRanges", laid_unicode_utf8_acceptRanges), ("unicode/utf8.first", laid_unicode_utf8_first)], narrowed := true }
def TermPlacesUptoSaid : Prop := termPlacesUptoRow.holds Tryd.pinned (OpenSpec.upto termPlacesSpec)

/-- 'lodestonelaw03.TermReplaces', WHERE WHAT IT READS IS OF BULK AT MOST 1048576: true; the input reads as it did. -/
def termReplacesUptoRow : OpenClaim := { program := "ytfhkbfofjjmbaaadoor", sum := "94c41c1a4b77b2cf62aa271e649d10874b69fcfb3ccbe94906962a99d421295c", func := "lodestone/lodestonelaw03.TermReplaces", spec := "termReplaces", unfollowed := true, recurses := true, named := ["unicode/utf8.first", "unicode/utf8.acceptRanges"], apart := false, laid := [("unicode/utf8.acceptRanges", laid_unicode_utf8_acceptRanges), ("unicode/utf8.first", laid_unicode_utf8_first)], narrowed := true }
def TermReplacesUptoSaid : Prop := termReplacesUptoRow.holds Tryd.pinned (OpenSpec.upto termReplacesSpec)

/-- 'lodestonelaw03.TermParts', WHERE WHAT IT READS IS OF BULK AT MOST 1048576: true; the input reads as it did. -/
def termPartsUptoRow : OpenClaim := { program := "ytfhkbfofjjmbaaadoor", sum := "94c41c1a4b77b2cf62aa271e649d10874b69fcfb3ccbe94906962a99d421295c", func := "lodestone/lodestonelaw03.TermParts", spec := "termParts", unfollowed := true, recurses := true, named := ["unicode/utf8.first", "unicode/utf8.acceptRanges"], apart := false, laid := [("unicode/utf8.acceptRanges", laid_unicode_utf8_acceptRanges), ("unicode/utf8.first", laid_unicode_utf8_first)], narrowed := true }
def TermPartsUptoSaid : Prop := termPartsUptoRow.holds Tryd.pinned (OpenSpec.upto termPartsSpec)

/-- 'lodestonelaw03.TermSwaps', WHERE WHAT IT READS IS OF BULK AT MOST 1048576: true; the input reads as it did. -/
def termSwapsUptoRow : OpenClaim := { program := "ytfhkbfofjjmbaaadoor", sum := "94c41c1a4b77b2cf62aa271e649d10874b69fcfb3ccbe94906962a99d421295c", func := "lodestone/lodestonelaw03.TermSwaps", spec := "termSwaps", unfollowed := true, recurses := true, named := ["unicode/utf8.first", "unicode/utf8.acceptRanges"], apart := false, laid := [("unicode/utf8.acceptRanges", laid_unicode_utf8_acceptRanges), ("unicode/utf8.first", laid_unicode_utf8_first)], narrowed := true }
def TermSwapsUptoSaid : Prop := termSwapsUptoRow.holds Tryd.pinned (OpenSpec.upto termSwapsSpec)

/-- 'lodestonelaw03.TermRight', WHERE WHAT IT READS IS OF BULK AT MOST 1048576: true; the input reads as it did. -/
def termRightUptoRow : OpenClaim := { program := "ytfhkbfofjjmbaaadoor", sum := "94c41c1a4b77b2cf62aa271e649d10874b69fcfb3ccbe94906962a99d421295c", func := "lodestone/lodestonelaw03.TermRight", spec := "termRight", unfollowed := true, recurses := true, named := ["unicode/utf8.first", "unicode/utf8.acceptRanges"], apart := false, laid := [("unicode/utf8.acceptRanges", laid_unicode_utf8_acceptRanges), ("unicode/utf8.first", laid_unicode_utf8_first)], narrowed := true }
def TermRightUptoSaid : Prop := termRightUptoRow.holds Tryd.pinned (OpenSpec.upto termRightSpec)

end Rows
end Go.Proofs.YtfhkbfofjjmbaaaDoor
