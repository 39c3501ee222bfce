/-
  NARROWER THAN 'FOR EVERY INPUT', by the rows' own cells (each row's printed sentence says how): LpoGreater: laid · LpoOrients: laid · LpoOrder: laid · LpoKept: laid · LpoMore: laid · LpoTotal: laid · LpoNamed: laid.
  DERIVED. THE GIVEN ROWS OF THIS SEAT. 7 by the template 'for every input the law returns true; each argument reads behind the call as it read before'; 0 by the template 'total and deterministic' (their statements: YthpdfkhmhaobgaaDoorTotals.lean).
  GIVEN WITH THE SEED: the statements are not yours to turn. If you find one false, say at which input.
  Laid BY PROGRAM, IN A SANDBOX (cutbox-rows.mjs): the forced cells as the released guide's own fill.sh prints them over the translation 29b895fba1ae1ef5… (all of the seat's roots in one cut). By AI agents, Wed Nov 11 2026. No macro, syntax, notation, axiom, sorry.
-/
import Derived.Test.YthpdfkhmhaobgaaDoorChecked
import GoSem.PinnedTables
import GoSem.Claim
import GoSem.ClaimJoined
import GoSem.ClaimMapViews
import Derived.JoinedTies
import Derived.KernelRfl
namespace Go.Proofs.YthpdfkhmhaobgaaDoor
/- THE CELL 'sum', in the pinned program and in every row, IS THE sha256 OF THE DUMP (.gsa) THAT YthpdfkhmhaobgaaDoorProg.lean LOADS. Nothing in Lean hashes anything: it is a label: what it is worth is what the hold of that sum in a sandbox is worth. -/
noncomputable def Tryd.pinned : Pinned := { name := "ythpdfkhmhaobgaadoor", sum := "29b895fba1ae1ef55c85ce45cb6c94d64108652544a722674e680f6c21d82a37", checked := Tryd.checked }
namespace Rows
def none {H : Type} : Left H := { results := [], args := [] }

/- WHAT THE LISTED PACKAGE-LEVEL VARIABLES READ AS WHEN THE CALL BEGINS. Each datum BY PROGRAM (the guide's laid-datum.mjs) off the statement by which the dump's own 'gosem.cut.vars' lays the variable. In a bare row this is a premise. The card (YthpdfkhmhaobgaaDoorCards.lean) ties it to the program's text. -/
def laid_unicode_utf8_acceptRanges {H : Type} : DataW H := .agg [.agg [.lit (.int .u8 128), .lit (.int .u8 191)], .agg [.lit (.int .u8 160), .lit (.int .u8 191)], .agg [.lit (.int .u8 128), .lit (.int .u8 159)], .agg [.lit (.int .u8 144), .lit (.int .u8 191)], .agg [.lit (.int .u8 128), .lit (.int .u8 143)], .agg [.lit (.int .u8 0), .lit (.int .u8 0)], .agg [.lit (.int .u8 0), .lit (.int .u8 0)], .agg [.lit (.int .u8 0), .lit (.int .u8 0)], .agg [.lit (.int .u8 0), .lit (.int .u8 0)], .agg [.lit (.int .u8 0), .lit (.int .u8 0)], .agg [.lit (.int .u8 0), .lit (.int .u8 0)], .agg [.lit (.int .u8 0), .lit (.int .u8 0)], .agg [.lit (.int .u8 0), .lit (.int .u8 0)], .agg [.lit (.int .u8 0), .lit (.int .u8 0)], .agg [.lit (.int .u8 0), .lit (.int .u8 0)], .agg [.lit (.int .u8 0), .lit (.int .u8 0)]]
/-- One of Go's own tables, pinned by name: the form's constant. -/
def laid_unicode_utf8_first : DataW Unit := Go.Pinned.utf8First

/-- 'lodestonelaw11.LpoGreater': WHATEVER THE INPUT: true; the input reads as it did. -/
def lpoGreaterSpec : ChangeSpec := { name := "lpoGreater", fn := fun _ => fun
  | [d1, d2, d3] => { results := [.lit (.bool true)], args := [d1, d2, d3] }
  | _ => none }
def lpoGreaterRow : OpenClaim := { program := "ythpdfkhmhaobgaadoor", sum := "29b895fba1ae1ef55c85ce45cb6c94d64108652544a722674e680f6c21d82a37", func := "lodestone/lodestonelaw11.LpoGreater", spec := "lpoGreater", unfollowed := true, recurses := true, named := ["unicode/utf8.first", "unicode/utf8.acceptRanges"], plainKeys := false, apart := false, laid := [("unicode/utf8.acceptRanges", laid_unicode_utf8_acceptRanges), ("unicode/utf8.first", laid_unicode_utf8_first)] }
def LpoGreaterSaid : Prop := lpoGreaterRow.holds Tryd.pinned (OpenSpec.ofChange lpoGreaterSpec)

/-- ITS FALSE NEIGHBOUR: 'it returns false'. Refute it at one input. -/
def lpoGreaterWrong : ChangeSpec := { name := "lpoGreater", fn := fun _ => fun
  | [d1, d2, d3] => { results := [.lit (.bool false)], args := [d1, d2, d3] }
  | _ => none }
def LpoGreaterWrongFalsely : Prop := lpoGreaterRow.holds Tryd.pinned (OpenSpec.ofChange lpoGreaterWrong)

/-- 'lodestonelaw11.LpoOrients': WHATEVER THE INPUT: true; the input reads as it did. -/
def lpoOrientsSpec : ChangeSpec := { name := "lpoOrients", fn := fun _ => fun
  | [d1, d2, d3] => { results := [.lit (.bool true)], args := [d1, d2, d3] }
  | _ => none }
def lpoOrientsRow : OpenClaim := { program := "ythpdfkhmhaobgaadoor", sum := "29b895fba1ae1ef55c85ce45cb6c94d64108652544a722674e680f6c21d82a37", func := "lodestone/lodestonelaw11.LpoOrients", spec := "lpoOrients", unfollowed := true, recurses := true, named := ["unicode/utf8.first", "unicode/utf8.acceptRanges"], plainKeys := false, apart := false, laid := [("unicode/utf8.acceptRanges", laid_unicode_utf8_acceptRanges), ("unicode/utf8.first", laid_unicode_utf8_first)] }
def LpoOrientsSaid : Prop := lpoOrientsRow.holds Tryd.pinned (OpenSpec.ofChange lpoOrientsSpec)

/-- ITS FALSE NEIGHBOUR: 'it returns false'. Refute it at one input. -/
def lpoOrientsWrong : ChangeSpec := { name := "lpoOrients", fn := fun _ => fun
  | [d1, d2, d3] => { results := [.lit (.bool false)], args := [d1, d2, d3] }
  | _ => none }
def LpoOrientsWrongFalsely : Prop := lpoOrientsRow.holds Tryd.pinned (OpenSpec.ofChange lpoOrientsWrong)

/-- 'lodestonelaw11.LpoOrder': WHATEVER THE INPUT: true; the input reads as it did. -/
def lpoOrderSpec : ChangeSpec := { name := "lpoOrder", fn := fun _ => fun
  | [d1, d2, d3] => { results := [.lit (.bool true)], args := [d1, d2, d3] }
  | _ => none }
def lpoOrderRow : OpenClaim := { program := "ythpdfkhmhaobgaadoor", sum := "29b895fba1ae1ef55c85ce45cb6c94d64108652544a722674e680f6c21d82a37", func := "lodestone/lodestonelaw11.LpoOrder", spec := "lpoOrder", unfollowed := true, recurses := true, named := ["unicode/utf8.first", "unicode/utf8.acceptRanges"], plainKeys := false, apart := false, laid := [("unicode/utf8.acceptRanges", laid_unicode_utf8_acceptRanges), ("unicode/utf8.first", laid_unicode_utf8_first)] }
def LpoOrderSaid : Prop := lpoOrderRow.holds Tryd.pinned (OpenSpec.ofChange lpoOrderSpec)

/-- ITS FALSE NEIGHBOUR: 'it returns false'. Refute it at one input. -/
def lpoOrderWrong : ChangeSpec := { name := "lpoOrder", fn := fun _ => fun
  | [d1, d2, d3] => { results := [.lit (.bool false)], args := [d1, d2, d3] }
  | _ => none }
def LpoOrderWrongFalsely : Prop := lpoOrderRow.holds Tryd.pinned (OpenSpec.ofChange lpoOrderWrong)

/-- 'lodestonelaw11.LpoKept': WHATEVER THE INPUT: true; the input reads as it did. -/
def lpoKeptSpec : ChangeSpec := { name := "lpoKept", fn := fun _ => fun
  | [d1, d2, d3] => { results := [.lit (.bool true)], args := [d1, d2, d3] }
  | _ => none }
def lpoKeptRow : OpenClaim := { program := "ythpdfkhmhaobgaadoor", sum := "29b895fba1ae1ef55c85ce45cb6c94d64108652544a722674e680f6c21d82a37", func := "lodestone/lodestonelaw11.LpoKept", spec := "lpoKept", unfollowed := true, recurses := true, named := ["unicode/utf8.first", "unicode/utf8.acceptRanges"], plainKeys := false, apart := false, laid := [("unicode/utf8.acceptRanges", laid_unicode_utf8_acceptRanges), ("unicode/utf8.first", laid_unicode_utf8_first)] }
def LpoKeptSaid : Prop := lpoKeptRow.holds Tryd.pinned (OpenSpec.ofChange lpoKeptSpec)

/-- ITS FALSE NEIGHBOUR: 'it returns false'. Refute it at one input. -/
def lpoKeptWrong : ChangeSpec := { name := "lpoKept", fn := fun _ => fun
  | [d1, d2, d3] => { results := [.lit (.bool false)], args := [d1, d2, d3] }
  | _ => none }
def LpoKeptWrongFalsely : Prop := lpoKeptRow.holds Tryd.pinned (OpenSpec.ofChange lpoKeptWrong)

/-- 'lodestonelaw11.LpoMore': WHATEVER THE INPUT: true; the input reads as it did. -/
def lpoMoreSpec : ChangeSpec := { name := "lpoMore", fn := fun _ => fun
  | [d1, d2, d3] => { results := [.lit (.bool true)], args := [d1, d2, d3] }
  | _ => none }
def lpoMoreRow : OpenClaim := { program := "ythpdfkhmhaobgaadoor", sum := "29b895fba1ae1ef55c85ce45cb6c94d64108652544a722674e680f6c21d82a37", func := "lodestone/lodestonelaw11.LpoMore", spec := "lpoMore", unfollowed := true, recurses := true, named := ["unicode/utf8.first", "unicode/utf8.acceptRanges"], plainKeys := false, apart := false, laid := [("unicode/utf8.acceptRanges", laid_unicode_utf8_acceptRanges), ("unicode/utf8.first", laid_unicode_utf8_first)] }
def LpoMoreSaid : Prop := lpoMoreRow.holds Tryd.pinned (OpenSpec.ofChange lpoMoreSpec)

/-- ITS FALSE NEIGHBOUR: 'it returns false'. Refute it at one input. -/
def lpoMoreWrong : ChangeSpec := { name := "lpoMore", fn := fun _ => fun
  | [d1, d2, d3] => { results := [.lit (.bool false)], args := [d1, d2, d3] }
  | _ => none }
def LpoMoreWrongFalsely : Prop := lpoMoreRow.holds Tryd.pinned (OpenSpec.ofChange lpoMoreWrong)

/-- 'lodestonelaw11.LpoTotal': WHATEVER THE INPUT: true; the input reads as it did. -/
def lpoTotalSpec : ChangeSpec := { name := "lpoTotal", fn := fun _ => fun
  | [d1, d2, d3] => { results := [.lit (.bool true)], args := [d1, d2, d3] }
  | _ => none }
def lpoTotalRow : OpenClaim := { program := "ythpdfkhmhaobgaadoor", sum := "29b895fba1ae1ef55c85ce45cb6c94d64108652544a722674e680f6c21d82a37", func := "lodestone/lodestonelaw11.LpoTotal", spec := "lpoTotal", unfollowed := true, recurses := true, named := ["unicode/utf8.first", "unicode/utf8.acceptRanges"], plainKeys := false, apart := false, laid := [("unicode/utf8.acceptRanges", laid_unicode_utf8_acceptRanges), ("unicode/utf8.first", laid_unicode_utf8_first)] }
def LpoTotalSaid : Prop := lpoTotalRow.holds Tryd.pinned (OpenSpec.ofChange lpoTotalSpec)

/-- ITS FALSE NEIGHBOUR: 'it returns false'. Refute it at one input. -/
def lpoTotalWrong : ChangeSpec := { name := "lpoTotal", fn := fun _ => fun
  | [d1, d2, d3] => { results := [.lit (.bool false)], args := [d1, d2, d3] }
  | _ => none }
def LpoTotalWrongFalsely : Prop := lpoTotalRow.holds Tryd.pinned (OpenSpec.ofChange lpoTotalWrong)

/-- 'lodestonelaw11.LpoNamed': WHATEVER THE INPUT: true; the input reads as it did. -/
def lpoNamedSpec : ChangeSpec := { name := "lpoNamed", fn := fun _ => fun
  | [d1, d2, d3] => { results := [.lit (.bool true)], args := [d1, d2, d3] }
  | _ => none }
def lpoNamedRow : OpenClaim := { program := "ythpdfkhmhaobgaadoor", sum := "29b895fba1ae1ef55c85ce45cb6c94d64108652544a722674e680f6c21d82a37", func := "lodestone/lodestonelaw11.LpoNamed", spec := "lpoNamed", unfollowed := true, recurses := true, named := ["unicode/utf8.first", "unicode/utf8.acceptRanges"], plainKeys := false, apart := false, laid := [("unicode/utf8.acceptRanges", laid_unicode_utf8_acceptRanges), ("unicode/utf8.first", laid_unicode_utf8_first)] }
def LpoNamedSaid : Prop := lpoNamedRow.holds Tryd.pinned (OpenSpec.ofChange lpoNamedSpec)

/-- ITS FALSE NEIGHBOUR: 'it returns false'. Refute it at one input. -/
def lpoNamedWrong : ChangeSpec := { name := "lpoNamed", fn := fun _ => fun
  | [d1, d2, d3] => { results := [.lit (.bool false)], args := [d1, d2, d3] }
  | _ => none }
def LpoNamedWrongFalsely : Prop := lpoNamedRow.holds Tryd.pinned (OpenSpec.ofChange lpoNamedWrong)

/- THE SECOND FORM. 'bulk': how many values and letters a reading holds, each counted each time it is reached (what is shared counts as often as it is met; a slice's spare places count too). A statement '..UptoSaid' is the law's where the arguments, and the package variables that the reading takes, are together of bulk at most 1048576: NARROWER than '..Said'. Prove '..Said' where nothing that the law and all that it calls make is longer than what came in: it says more and counts as full. Else prove '..UptoSaid'. A law counts once. -/
mutual
def uptoBulk {H : Type} : DataW H → Nat
  | .lit (.string bytes) => bytes.length + 1
  | .lit _ => 1
  | .nil => 1
  | .ptr d => uptoBulk d + 1
  | .slice elems spare => uptoBulkAll elems + uptoBulkAll spare + 1
  | .agg parts => uptoBulkAll parts + 1
  | .iface _ d => uptoBulk d + 1
  | .map entries => uptoBulkEntries entries + 1
  | .held _ => 1
def uptoBulkAll {H : Type} : List (DataW H) → Nat
  | [] => 0
  | d :: r => uptoBulk d + uptoBulkAll r
def uptoBulkEntries {H : Type} : List (Lit × DataW H) → Nat
  | [] => 0
  | x :: r => uptoBulkEntry x + uptoBulkEntries r
def uptoBulkEntry {H : Type} : Lit × DataW H → Nat
  | (.string bytes, d) => bytes.length + uptoBulk d + 1
  | (_, d) => uptoBulk d + 1
 end
def uptoSmall : (H : Type) → List (DataW H) → Bool := fun _ ds => decide (uptoBulkAll ds ≤ 1048576)
def OpenSpec.upto (s : _root_.Go.ChangeSpec) : _root_.Go.OpenSpec := { _root_.Go.OpenSpec.ofChange s with cond := some uptoSmall }

/-- 'lodestonelaw11.LpoGreater', WHERE WHAT IT READS IS OF BULK AT MOST 1048576: true; the input reads as it did. -/
def lpoGreaterUptoRow : OpenClaim := { program := "ythpdfkhmhaobgaadoor", sum := "29b895fba1ae1ef55c85ce45cb6c94d64108652544a722674e680f6c21d82a37", func := "lodestone/lodestonelaw11.LpoGreater", spec := "lpoGreater", unfollowed := true, recurses := true, named := ["unicode/utf8.first", "unicode/utf8.acceptRanges"], plainKeys := false, apart := false, laid := [("unicode/utf8.acceptRanges", laid_unicode_utf8_acceptRanges), ("unicode/utf8.first", laid_unicode_utf8_first)], narrowed := true }
def LpoGreaterUptoSaid : Prop := lpoGreaterUptoRow.holds Tryd.pinned (OpenSpec.upto lpoGreaterSpec)

/-- 'lodestonelaw11.LpoOrients', WHERE WHAT IT READS IS OF BULK AT MOST 1048576: true; the input reads as it did. -/
def lpoOrientsUptoRow : OpenClaim := { program := "ythpdfkhmhaobgaadoor", sum := "29b895fba1ae1ef55c85ce45cb6c94d64108652544a722674e680f6c21d82a37", func := "lodestone/lodestonelaw11.LpoOrients", spec := "lpoOrients", unfollowed := true, recurses := true, named := ["unicode/utf8.first", "unicode/utf8.acceptRanges"], plainKeys := false, apart := false, laid := [("unicode/utf8.acceptRanges", laid_unicode_utf8_acceptRanges), ("unicode/utf8.first", laid_unicode_utf8_first)], narrowed := true }
def LpoOrientsUptoSaid : Prop := lpoOrientsUptoRow.holds Tryd.pinned (OpenSpec.upto lpoOrientsSpec)

/-- 'lodestonelaw11.LpoOrder', WHERE WHAT IT READS IS OF BULK AT MOST 1048576: true; the input reads as it did. -/
def lpoOrderUptoRow : OpenClaim := { program := "ythpdfkhmhaobgaadoor", sum := "29b895fba1ae1ef55c85ce45cb6c94d64108652544a722674e680f6c21d82a37", func := "lodestone/lodestonelaw11.LpoOrder", spec := "lpoOrder", unfollowed := true, recurses := true, named := ["unicode/utf8.first", "unicode/utf8.acceptRanges"], plainKeys := false, apart := false, laid := [("unicode/utf8.acceptRanges", laid_unicode_utf8_acceptRanges), ("unicode/utf8.first", laid_unicode_utf8_first)], narrowed := true }
def LpoOrderUptoSaid : Prop := lpoOrderUptoRow.holds Tryd.pinned (OpenSpec.upto lpoOrderSpec)

/-- 'lodestonelaw11.LpoKept', WHERE WHAT IT READS IS OF BULK AT MOST 1048576: true; the input reads as it did. -/
def lpoKeptUptoRow : OpenClaim := { program := "ythpdfkhmhaobgaadoor", sum := "29b895fba1ae1ef55c85ce45cb6c94d64108652544a722674e680f6c21d82a37", func := "lodestone/lodestonelaw11.LpoKept", spec := "lpoKept", unfollowed := true, recurses := true, named := ["unicode/utf8.first", "unicode/utf8.acceptRanges"], plainKeys := false, apart := false, laid := [("unicode/utf8.acceptRanges", laid_unicode_utf8_acceptRanges), ("unicode/utf8.first", laid_unicode_utf8_first)], narrowed := true }
def LpoKeptUptoSaid : Prop := lpoKeptUptoRow.holds Tryd.pinned (OpenSpec.upto lpoKeptSpec)

/-- 'lodestonelaw11.LpoMore', WHERE WHAT IT READS IS OF BULK AT MOST 1048576: true; the input reads as it did. -/
def lpoMoreUptoRow : OpenClaim := { program := "ythpdfkhmhaobgaadoor", sum := "29b895fba1ae1ef55c85ce45cb6c94d64108652544a722674e680f6c21d82a37", func := "lodestone/lodestonelaw11.LpoMore", spec := "lpoMore", unfollowed := true, recurses := true, named := ["unicode/utf8.first", "unicode/utf8.acceptRanges"], plainKeys := false, apart := false, laid := [("unicode/utf8.acceptRanges", laid_unicode_utf8_acceptRanges), ("unicode/utf8.first", laid_unicode_utf8_first)], narrowed := true }
def LpoMoreUptoSaid : Prop := lpoMoreUptoRow.holds Tryd.pinned (OpenSpec.upto lpoMoreSpec)

/-- 'lodestonelaw11.LpoTotal', WHERE WHAT IT READS IS OF BULK AT MOST 1048576: true; the input reads as it did. -/
def lpoTotalUptoRow : OpenClaim := { program := "ythpdfkhmhaobgaadoor", sum := "29b895fba1ae1ef55c85ce45cb6c94d64108652544a722674e680f6c21d82a37", func := "lodestone/lodestonelaw11.LpoTotal", spec := "lpoTotal", unfollowed := true, recurses := true, named := ["unicode/utf8.first", "unicode/utf8.acceptRanges"], plainKeys := false, apart := false, laid := [("unicode/utf8.acceptRanges", laid_unicode_utf8_acceptRanges), ("unicode/utf8.first", laid_unicode_utf8_first)], narrowed := true }
def LpoTotalUptoSaid : Prop := lpoTotalUptoRow.holds Tryd.pinned (OpenSpec.upto lpoTotalSpec)

/-- 'lodestonelaw11.LpoNamed', WHERE WHAT IT READS IS OF BULK AT MOST 1048576: true; the input reads as it did. -/
def lpoNamedUptoRow : OpenClaim := { program := "ythpdfkhmhaobgaadoor", sum := "29b895fba1ae1ef55c85ce45cb6c94d64108652544a722674e680f6c21d82a37", func := "lodestone/lodestonelaw11.LpoNamed", spec := "lpoNamed", unfollowed := true, recurses := true, named := ["unicode/utf8.first", "unicode/utf8.acceptRanges"], plainKeys := false, apart := false, laid := [("unicode/utf8.acceptRanges", laid_unicode_utf8_acceptRanges), ("unicode/utf8.first", laid_unicode_utf8_first)], narrowed := true }
def LpoNamedUptoSaid : Prop := lpoNamedUptoRow.holds Tryd.pinned (OpenSpec.upto lpoNamedSpec)

end Rows
end Go.Proofs.YthpdfkhmhaobgaaDoor
