/-
  NARROWER THAN 'FOR EVERY INPUT', by the rows' own cells (each row's printed sentence says how): SubstChecks: laid · SubstApplies: laid · SubstShifts: laid · SubstCanons: laid · SubstAfter: laid · SubstNumbers: laid · SubstParts: laid.
  DERIVED. THE GIVEN ROWS OF THIS SEAT. 7 by the template 'for every input the law returns true; each argument reads behind the call as it read before'; 0 by the template 'total and deterministic' (their statements: YtldnokeejinebaaDoorTotals.lean).
  GIVEN WITH THE SEED: the statements are not yours to turn. If you find one false, say at which input.
  Laid BY PROGRAM, IN A SANDBOX (cutbox-rows.mjs): the forced cells as the released guide's own fill.sh prints them over the translation e94083ccffb3511a… (all of the seat's roots in one cut). By AI agents, Wed Nov 11 2026. No macro, syntax, notation, axiom, sorry.
-/
import Derived.Test.YtldnokeejinebaaDoorChecked
import GoSem.PinnedTables
import GoSem.Claim
import GoSem.ClaimJoined
import GoSem.ClaimMapViews
import Derived.JoinedTies
import Derived.KernelRfl
namespace Go.Proofs.YtldnokeejinebaaDoor
/- THE CELL 'sum', in the pinned program and in every row, IS THE sha256 OF THE DUMP (.gsa) THAT YtldnokeejinebaaDoorProg.lean LOADS. Nothing in Lean hashes anything: it is a label: what it is worth is what the hold of that sum in a sandbox is worth. -/
noncomputable def Tryd.pinned : Pinned := { name := "ytldnokeejinebaadoor", sum := "e94083ccffb3511a75a9d40254b89420aa152833dd3a4f6081a3ad4024103f3a", checked := Tryd.checked }
namespace Rows
def none {H : Type} : Left H := { results := [], args := [] }

/- WHAT THE LISTED PACKAGE-LEVEL VARIABLES READ AS WHEN THE CALL BEGINS. Each datum BY PROGRAM (the guide's laid-datum.mjs) off the statement by which the dump's own 'gosem.cut.vars' lays the variable. In a bare row this is a premise. The card (YtldnokeejinebaaDoorCards.lean) ties it to the program's text. -/
def laid_unicode_utf8_acceptRanges {H : Type} : DataW H := .agg [.agg [.lit (.int .u8 128), .lit (.int .u8 191)], .agg [.lit (.int .u8 160), .lit (.int .u8 191)], .agg [.lit (.int .u8 128), .lit (.int .u8 159)], .agg [.lit (.int .u8 144), .lit (.int .u8 191)], .agg [.lit (.int .u8 128), .lit (.int .u8 143)], .agg [.lit (.int .u8 0), .lit (.int .u8 0)], .agg [.lit (.int .u8 0), .lit (.int .u8 0)], .agg [.lit (.int .u8 0), .lit (.int .u8 0)], .agg [.lit (.int .u8 0), .lit (.int .u8 0)], .agg [.lit (.int .u8 0), .lit (.int .u8 0)], .agg [.lit (.int .u8 0), .lit (.int .u8 0)], .agg [.lit (.int .u8 0), .lit (.int .u8 0)], .agg [.lit (.int .u8 0), .lit (.int .u8 0)], .agg [.lit (.int .u8 0), .lit (.int .u8 0)], .agg [.lit (.int .u8 0), .lit (.int .u8 0)], .agg [.lit (.int .u8 0), .lit (.int .u8 0)]]
/-- One of Go's own tables, pinned by name: the form's constant. -/
def laid_unicode_utf8_first : DataW Unit := Go.Pinned.utf8First

/-- 'lodestonelaw04.SubstChecks': WHATEVER THE INPUT: true; the input reads as it did. -/
def substChecksSpec : ChangeSpec := { name := "substChecks", fn := fun _ => fun
  | [d1, d2] => { results := [.lit (.bool true)], args := [d1, d2] }
  | _ => none }
def substChecksRow : OpenClaim := { program := "ytldnokeejinebaadoor", sum := "e94083ccffb3511a75a9d40254b89420aa152833dd3a4f6081a3ad4024103f3a", func := "lodestone/lodestonelaw04.SubstChecks", spec := "substChecks", unfollowed := true, recurses := true, named := ["unicode/utf8.first", "unicode/utf8.acceptRanges"], apart := false, laid := [("unicode/utf8.acceptRanges", laid_unicode_utf8_acceptRanges), ("unicode/utf8.first", laid_unicode_utf8_first)] }
def SubstChecksSaid : Prop := substChecksRow.holds Tryd.pinned (OpenSpec.ofChange substChecksSpec)

/-- ITS FALSE NEIGHBOUR: 'it returns false'. Refute it at one input. -/
def substChecksWrong : ChangeSpec := { name := "substChecks", fn := fun _ => fun
  | [d1, d2] => { results := [.lit (.bool false)], args := [d1, d2] }
  | _ => none }
def SubstChecksWrongFalsely : Prop := substChecksRow.holds Tryd.pinned (OpenSpec.ofChange substChecksWrong)

/-- 'lodestonelaw04.SubstApplies': WHATEVER THE INPUT: true; the input reads as it did. -/
def substAppliesSpec : ChangeSpec := { name := "substApplies", fn := fun _ => fun
  | [d1, d2, d3] => { results := [.lit (.bool true)], args := [d1, d2, d3] }
  | _ => none }
def substAppliesRow : OpenClaim := { program := "ytldnokeejinebaadoor", sum := "e94083ccffb3511a75a9d40254b89420aa152833dd3a4f6081a3ad4024103f3a", func := "lodestone/lodestonelaw04.SubstApplies", spec := "substApplies", unfollowed := true, recurses := true, named := ["unicode/utf8.first", "unicode/utf8.acceptRanges"], apart := false, laid := [("unicode/utf8.acceptRanges", laid_unicode_utf8_acceptRanges), ("unicode/utf8.first", laid_unicode_utf8_first)] }
def SubstAppliesSaid : Prop := substAppliesRow.holds Tryd.pinned (OpenSpec.ofChange substAppliesSpec)

/-- ITS FALSE NEIGHBOUR: 'it returns false'. Refute it at one input. -/
def substAppliesWrong : ChangeSpec := { name := "substApplies", fn := fun _ => fun
  | [d1, d2, d3] => { results := [.lit (.bool false)], args := [d1, d2, d3] }
  | _ => none }
def SubstAppliesWrongFalsely : Prop := substAppliesRow.holds Tryd.pinned (OpenSpec.ofChange substAppliesWrong)

/-- 'lodestonelaw04.SubstShifts': WHATEVER THE INPUT: true; the input reads as it did. -/
def substShiftsSpec : ChangeSpec := { name := "substShifts", fn := fun _ => fun
  | [d1, d2] => { results := [.lit (.bool true)], args := [d1, d2] }
  | _ => none }
def substShiftsRow : OpenClaim := { program := "ytldnokeejinebaadoor", sum := "e94083ccffb3511a75a9d40254b89420aa152833dd3a4f6081a3ad4024103f3a", func := "lodestone/lodestonelaw04.SubstShifts", spec := "substShifts", unfollowed := true, recurses := true, named := ["unicode/utf8.first", "unicode/utf8.acceptRanges"], apart := false, laid := [("unicode/utf8.acceptRanges", laid_unicode_utf8_acceptRanges), ("unicode/utf8.first", laid_unicode_utf8_first)] }
def SubstShiftsSaid : Prop := substShiftsRow.holds Tryd.pinned (OpenSpec.ofChange substShiftsSpec)

/-- ITS FALSE NEIGHBOUR: 'it returns false'. Refute it at one input. -/
def substShiftsWrong : ChangeSpec := { name := "substShifts", fn := fun _ => fun
  | [d1, d2] => { results := [.lit (.bool false)], args := [d1, d2] }
  | _ => none }
def SubstShiftsWrongFalsely : Prop := substShiftsRow.holds Tryd.pinned (OpenSpec.ofChange substShiftsWrong)

/-- 'lodestonelaw04.SubstCanons': WHATEVER THE INPUT: true; the input reads as it did. -/
def substCanonsSpec : ChangeSpec := { name := "substCanons", fn := fun _ => fun
  | [d] => { results := [.lit (.bool true)], args := [d] }
  | _ => none }
def substCanonsRow : OpenClaim := { program := "ytldnokeejinebaadoor", sum := "e94083ccffb3511a75a9d40254b89420aa152833dd3a4f6081a3ad4024103f3a", func := "lodestone/lodestonelaw04.SubstCanons", spec := "substCanons", unfollowed := true, recurses := true, named := ["unicode/utf8.first", "unicode/utf8.acceptRanges"], apart := false, laid := [("unicode/utf8.acceptRanges", laid_unicode_utf8_acceptRanges), ("unicode/utf8.first", laid_unicode_utf8_first)] }
def SubstCanonsSaid : Prop := substCanonsRow.holds Tryd.pinned (OpenSpec.ofChange substCanonsSpec)

/-- ITS FALSE NEIGHBOUR: 'it returns false'. Refute it at one input. -/
def substCanonsWrong : ChangeSpec := { name := "substCanons", fn := fun _ => fun
  | [d] => { results := [.lit (.bool false)], args := [d] }
  | _ => none }
def SubstCanonsWrongFalsely : Prop := substCanonsRow.holds Tryd.pinned (OpenSpec.ofChange substCanonsWrong)

/-- 'lodestonelaw04.SubstAfter': WHATEVER THE INPUT: true; the input reads as it did. -/
def substAfterSpec : ChangeSpec := { name := "substAfter", fn := fun _ => fun
  | [d1, d2, d3, d4] => { results := [.lit (.bool true)], args := [d1, d2, d3, d4] }
  | _ => none }
def substAfterRow : OpenClaim := { program := "ytldnokeejinebaadoor", sum := "e94083ccffb3511a75a9d40254b89420aa152833dd3a4f6081a3ad4024103f3a", func := "lodestone/lodestonelaw04.SubstAfter", spec := "substAfter", unfollowed := true, recurses := true, named := ["unicode/utf8.first", "unicode/utf8.acceptRanges"], apart := false, laid := [("unicode/utf8.acceptRanges", laid_unicode_utf8_acceptRanges), ("unicode/utf8.first", laid_unicode_utf8_first)] }
def SubstAfterSaid : Prop := substAfterRow.holds Tryd.pinned (OpenSpec.ofChange substAfterSpec)

/-- ITS FALSE NEIGHBOUR: 'it returns false'. Refute it at one input. -/
def substAfterWrong : ChangeSpec := { name := "substAfter", fn := fun _ => fun
  | [d1, d2, d3, d4] => { results := [.lit (.bool false)], args := [d1, d2, d3, d4] }
  | _ => none }
def SubstAfterWrongFalsely : Prop := substAfterRow.holds Tryd.pinned (OpenSpec.ofChange substAfterWrong)

/-- 'lodestonelaw04.SubstNumbers': WHATEVER THE INPUT: true; the input reads as it did. -/
def substNumbersSpec : ChangeSpec := { name := "substNumbers", fn := fun _ => fun
  | [d1, d2] => { results := [.lit (.bool true)], args := [d1, d2] }
  | _ => none }
def substNumbersRow : OpenClaim := { program := "ytldnokeejinebaadoor", sum := "e94083ccffb3511a75a9d40254b89420aa152833dd3a4f6081a3ad4024103f3a", func := "lodestone/lodestonelaw04.SubstNumbers", spec := "substNumbers", unfollowed := true, recurses := true, named := ["unicode/utf8.first", "unicode/utf8.acceptRanges"], apart := false, laid := [("unicode/utf8.acceptRanges", laid_unicode_utf8_acceptRanges), ("unicode/utf8.first", laid_unicode_utf8_first)] }
def SubstNumbersSaid : Prop := substNumbersRow.holds Tryd.pinned (OpenSpec.ofChange substNumbersSpec)

/-- ITS FALSE NEIGHBOUR: 'it returns false'. Refute it at one input. -/
def substNumbersWrong : ChangeSpec := { name := "substNumbers", fn := fun _ => fun
  | [d1, d2] => { results := [.lit (.bool false)], args := [d1, d2] }
  | _ => none }
def SubstNumbersWrongFalsely : Prop := substNumbersRow.holds Tryd.pinned (OpenSpec.ofChange substNumbersWrong)

/-- 'lodestonelaw04.SubstParts': WHATEVER THE INPUT: true; the input reads as it did. -/
def substPartsSpec : ChangeSpec := { name := "substParts", fn := fun _ => fun
  | [d1, d2, d3] => { results := [.lit (.bool true)], args := [d1, d2, d3] }
  | _ => none }
def substPartsRow : OpenClaim := { program := "ytldnokeejinebaadoor", sum := "e94083ccffb3511a75a9d40254b89420aa152833dd3a4f6081a3ad4024103f3a", func := "lodestone/lodestonelaw04.SubstParts", spec := "substParts", unfollowed := true, recurses := true, named := ["unicode/utf8.first", "unicode/utf8.acceptRanges"], apart := false, laid := [("unicode/utf8.acceptRanges", laid_unicode_utf8_acceptRanges), ("unicode/utf8.first", laid_unicode_utf8_first)] }
def SubstPartsSaid : Prop := substPartsRow.holds Tryd.pinned (OpenSpec.ofChange substPartsSpec)

/-- ITS FALSE NEIGHBOUR: 'it returns false'. Refute it at one input. -/
def substPartsWrong : ChangeSpec := { name := "substParts", fn := fun _ => fun
  | [d1, d2, d3] => { results := [.lit (.bool false)], args := [d1, d2, d3] }
  | _ => none }
def SubstPartsWrongFalsely : Prop := substPartsRow.holds Tryd.pinned (OpenSpec.ofChange substPartsWrong)

/- THE SECOND FORM. 'bulk': how many values and letters a reading holds, each counted each time it is reached (what is shared counts as often as it is met; a slice's spare places count too). A statement '..UptoSaid' is the law's where the arguments, and the package variables that the reading takes, are together of bulk at most 1048576: NARROWER than '..Said'. Prove '..Said' where nothing that the law and all that it calls make is longer than what came in: it says more and counts as full. Else prove '..UptoSaid'. A law counts once. -/
mutual
def uptoBulk {H : Type} : DataW H → Nat
  | .lit (.string bytes) => bytes.length + 1
  | .lit _ => 1
  | .nil => 1
  | .ptr d => uptoBulk d + 1
  | .slice elems spare => uptoBulkAll elems + uptoBulkAll spare + 1
  | .agg parts => uptoBulkAll parts + 1
  | .iface _ d => uptoBulk d + 1
  | .map entries => uptoBulkEntries entries + 1
  | .held _ => 1
def uptoBulkAll {H : Type} : List (DataW H) → Nat
  | [] => 0
  | d :: r => uptoBulk d + uptoBulkAll r
def uptoBulkEntries {H : Type} : List (Lit × DataW H) → Nat
  | [] => 0
  | x :: r => uptoBulkEntry x + uptoBulkEntries r
def uptoBulkEntry {H : Type} : Lit × DataW H → Nat
  | (.string bytes, d) => bytes.length + uptoBulk d + 1
  | (_, d) => uptoBulk d + 1
 end
def uptoSmall : (H : Type) → List (DataW H) → Bool := fun _ ds => decide (uptoBulkAll ds ≤ 1048576)
def OpenSpec.upto (s : _root_.Go.ChangeSpec) : _root_.Go.OpenSpec := { _root_.Go.OpenSpec.ofChange s with cond := some uptoSmall }

/-- 'lodestonelaw04.SubstChecks', WHERE WHAT IT READS IS OF BULK AT MOST 1048576: true; the input reads as it did. -/
def substChecksUptoRow : OpenClaim := { program := "ytldnokeejinebaadoor", sum := "e94083ccffb3511a75a9d40254b89420aa152833dd3a4f6081a3ad4024103f3a", func := "lodestone/lodestonelaw04.SubstChecks", spec := "substChecks", unfollowed := true, recurses := true, named := ["unicode/utf8.first", "unicode/utf8.acceptRanges"], apart := false, laid := [("unicode/utf8.acceptRanges", laid_unicode_utf8_acceptRanges), ("unicode/utf8.first", laid_unicode_utf8_first)], narrowed := true }
def SubstChecksUptoSaid : Prop := substChecksUptoRow.holds Tryd.pinned (OpenSpec.upto substChecksSpec)

/-- 'lodestonelaw04.SubstApplies', WHERE WHAT IT READS IS OF BULK AT MOST 1048576: true; the input reads as it did. -/
def substAppliesUptoRow : OpenClaim := { program := "ytldnokeejinebaadoor", sum := "e94083ccffb3511a75a9d40254b89420aa152833dd3a4f6081a3ad4024103f3a", func := "lodestone/lodestonelaw04.SubstApplies", spec := "substApplies", unfollowed := true, recurses := true, named := ["unicode/utf8.first", "unicode/utf8.acceptRanges"], apart := false, laid := [("unicode/utf8.acceptRanges", laid_unicode_utf8_acceptRanges), ("unicode/utf8.first", laid_unicode_utf8_first)], narrowed := true }
def SubstAppliesUptoSaid : Prop := substAppliesUptoRow.holds Tryd.pinned (OpenSpec.upto substAppliesSpec)

/-- 'lodestonelaw04.SubstShifts', WHERE WHAT IT READS IS OF BULK AT MOST 1048576: true; the input reads as it did. -/
def substShiftsUptoRow : OpenClaim := { program := "ytldnokeejinebaadoor", sum := "e94083ccffb3511a75a9d40254b89420aa152833dd3a4f6081a3ad4024103f3a", func := "lodestone/lodestonelaw04.SubstShifts", spec := "substShifts", unfollowed := true, recurses := true, named := ["unicode/utf8.first", "unicode/utf8.acceptRanges"], apart := false, laid := [("unicode/utf8.acceptRanges", laid_unicode_utf8_acceptRanges), ("unicode/utf8.first", laid_unicode_utf8_first)], narrowed := true }
def SubstShiftsUptoSaid : Prop := substShiftsUptoRow.holds Tryd.pinned (OpenSpec.upto substShiftsSpec)

/-- 'lodestonelaw04.SubstCanons', WHERE WHAT IT READS IS OF BULK AT MOST 1048576: true; the input reads as it did. -/
def substCanonsUptoRow : OpenClaim := { program := "ytldnokeejinebaadoor", sum := "e94083ccffb3511a75a9d40254b89420aa152833dd3a4f6081a3ad4024103f3a", func := "lodestone/lodestonelaw04.SubstCanons", spec := "substCanons", unfollowed := true, recurses := true, named := ["unicode/utf8.first", "unicode/utf8.acceptRanges"], apart := false, laid := [("unicode/utf8.acceptRanges", laid_unicode_utf8_acceptRanges), ("unicode/utf8.first", laid_unicode_utf8_first)], narrowed := true }
def SubstCanonsUptoSaid : Prop := substCanonsUptoRow.holds Tryd.pinned (OpenSpec.upto substCanonsSpec)

/-- 'lodestonelaw04.SubstAfter', WHERE WHAT IT READS IS OF BULK AT MOST 1048576: true; the input reads as it did. -/
def substAfterUptoRow : OpenClaim := { program := "ytldnokeejinebaadoor", sum := "e94083ccffb3511a75a9d40254b89420aa152833dd3a4f6081a3ad4024103f3a", func := "lodestone/lodestonelaw04.SubstAfter", spec := "substAfter", unfollowed := true, recurses := true, named := ["unicode/utf8.first", "unicode/utf8.acceptRanges"], apart := false, laid := [("unicode/utf8.acceptRanges", laid_unicode_utf8_acceptRanges), ("unicode/utf8.first", laid_unicode_utf8_first)], narrowed := true }
def SubstAfterUptoSaid : Prop := substAfterUptoRow.holds Tryd.pinned (OpenSpec.upto substAfterSpec)

/-- 'lodestonelaw04.SubstNumbers', WHERE WHAT IT READS IS OF BULK AT MOST 1048576: true; the input reads as it did. -/
def substNumbersUptoRow : OpenClaim := { program := "ytldnokeejinebaadoor", sum := "e94083ccffb3511a75a9d40254b89420aa152833dd3a4f6081a3ad4024103f3a", func := "lodestone/lodestonelaw04.SubstNumbers", spec := "substNumbers", unfollowed := true, recurses := true, named := ["unicode/utf8.first", "unicode/utf8.acceptRanges"], apart := false, laid := [("unicode/utf8.acceptRanges", laid_unicode_utf8_acceptRanges), ("unicode/utf8.first", laid_unicode_utf8_first)], narrowed := true }
def SubstNumbersUptoSaid : Prop := substNumbersUptoRow.holds Tryd.pinned (OpenSpec.upto substNumbersSpec)

/-- 'lodestonelaw04.SubstParts', WHERE WHAT IT READS IS OF BULK AT MOST 1048576: true; the input reads as it did. -/
def substPartsUptoRow : OpenClaim := { program := "ytldnokeejinebaadoor", sum := "e94083ccffb3511a75a9d40254b89420aa152833dd3a4f6081a3ad4024103f3a", func := "lodestone/lodestonelaw04.SubstParts", spec := "substParts", unfollowed := true, recurses := true, named := ["unicode/utf8.first", "unicode/utf8.acceptRanges"], apart := false, laid := [("unicode/utf8.acceptRanges", laid_unicode_utf8_acceptRanges), ("unicode/utf8.first", laid_unicode_utf8_first)], narrowed := true }
def SubstPartsUptoSaid : Prop := substPartsUptoRow.holds Tryd.pinned (OpenSpec.upto substPartsSpec)

end Rows
end Go.Proofs.YtldnokeejinebaaDoor
