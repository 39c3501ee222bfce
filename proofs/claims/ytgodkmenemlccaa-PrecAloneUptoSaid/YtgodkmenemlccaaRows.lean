/-
  No cell of these rows narrows 'for every input' (looked for: loops, veiled, ifaces, maps, wideKeys, modest, calm, conditions, laid).
  DERIVED. THE GIVEN ROWS OF THIS SEAT. 5 by the template 'for every input the law returns true; each argument reads behind the call as it read before'; 0 by the template 'total and deterministic' (their statements: YtgodkmenemlccaaTotals.lean).
  GIVEN WITH THE SEED: the statements are not yours to turn. If you find one false, say at which input.
  Laid BY PROGRAM, IN A SANDBOX (cutbox-rows.mjs): the forced cells as the released guide's own fill.sh prints them over the translation fe7d6d18f20e7cd4… (all of the seat's roots in one cut). By AI agents, Wed Nov 11 2026. No macro, syntax, notation, axiom, sorry.
-/
import Derived.Test.YtgodkmenemlccaaChecked
import GoSem.Claim
import GoSem.ClaimJoined
import GoSem.ClaimMapViews
import Derived.JoinedTies
import Derived.KernelRfl
namespace Go.Proofs.Ytgodkmenemlccaa
/- THE CELL 'sum', in the pinned program and in every row, IS THE sha256 OF THE DUMP (.gsa) THAT YtgodkmenemlccaaProg.lean LOADS. Nothing in Lean hashes anything: it is a label: what it is worth is what the hold of that sum in a sandbox is worth. -/
noncomputable def Try.pinned : Pinned := { name := "ytgodkmenemlccaa", sum := "fe7d6d18f20e7cd43cda6dfc8d91cd8700a9ae7ef222cef20a4269bc033af3ca", checked := Try.checked }
namespace Rows
def none {H : Type} : Left H := { results := [], args := [] }

/-- 'lodestonelaw10.PrecCloses': WHATEVER THE INPUT: true; the input reads as it did. -/
def precClosesSpec : ChangeSpec := { name := "precCloses", fn := fun _ => fun
  | [d1, d2, d3, d4] => { results := [.lit (.bool true)], args := [d1, d2, d3, d4] }
  | _ => none }
def precClosesRow : OpenClaim := { program := "ytgodkmenemlccaa", sum := "fe7d6d18f20e7cd43cda6dfc8d91cd8700a9ae7ef222cef20a4269bc033af3ca", func := "lodestone/lodestonelaw10.PrecCloses", spec := "precCloses", apart := false }
def PrecClosesSaid : Prop := precClosesRow.holds Try.pinned (OpenSpec.ofChange precClosesSpec)

/-- ITS FALSE NEIGHBOUR: 'it returns false'. Refute it at one input. -/
def precClosesWrong : ChangeSpec := { name := "precCloses", fn := fun _ => fun
  | [d1, d2, d3, d4] => { results := [.lit (.bool false)], args := [d1, d2, d3, d4] }
  | _ => none }
def PrecClosesWrongFalsely : Prop := precClosesRow.holds Try.pinned (OpenSpec.ofChange precClosesWrong)

/-- 'lodestonelaw10.PrecOrders': WHATEVER THE INPUT: true; the input reads as it did. -/
def precOrdersSpec : ChangeSpec := { name := "precOrders", fn := fun _ => fun
  | [d1, d2, d3, d4, d5] => { results := [.lit (.bool true)], args := [d1, d2, d3, d4, d5] }
  | _ => none }
def precOrdersRow : OpenClaim := { program := "ytgodkmenemlccaa", sum := "fe7d6d18f20e7cd43cda6dfc8d91cd8700a9ae7ef222cef20a4269bc033af3ca", func := "lodestone/lodestonelaw10.PrecOrders", spec := "precOrders", apart := false }
def PrecOrdersSaid : Prop := precOrdersRow.holds Try.pinned (OpenSpec.ofChange precOrdersSpec)

/-- ITS FALSE NEIGHBOUR: 'it returns false'. Refute it at one input. -/
def precOrdersWrong : ChangeSpec := { name := "precOrders", fn := fun _ => fun
  | [d1, d2, d3, d4, d5] => { results := [.lit (.bool false)], args := [d1, d2, d3, d4, d5] }
  | _ => none }
def PrecOrdersWrongFalsely : Prop := precOrdersRow.holds Try.pinned (OpenSpec.ofChange precOrdersWrong)

/-- 'lodestonelaw10.PrecAlone': WHATEVER THE INPUT: true; the input reads as it did. -/
def precAloneSpec : ChangeSpec := { name := "precAlone", fn := fun _ => fun
  | [d1, d2, d3] => { results := [.lit (.bool true)], args := [d1, d2, d3] }
  | _ => none }
def precAloneRow : OpenClaim := { program := "ytgodkmenemlccaa", sum := "fe7d6d18f20e7cd43cda6dfc8d91cd8700a9ae7ef222cef20a4269bc033af3ca", func := "lodestone/lodestonelaw10.PrecAlone", spec := "precAlone", apart := false }
def PrecAloneSaid : Prop := precAloneRow.holds Try.pinned (OpenSpec.ofChange precAloneSpec)

/-- ITS FALSE NEIGHBOUR: 'it returns false'. Refute it at one input. -/
def precAloneWrong : ChangeSpec := { name := "precAlone", fn := fun _ => fun
  | [d1, d2, d3] => { results := [.lit (.bool false)], args := [d1, d2, d3] }
  | _ => none }
def PrecAloneWrongFalsely : Prop := precAloneRow.holds Try.pinned (OpenSpec.ofChange precAloneWrong)

/-- 'lodestonelaw10.PrecMore': WHATEVER THE INPUT: true; the input reads as it did. -/
def precMoreSpec : ChangeSpec := { name := "precMore", fn := fun _ => fun
  | [d1, d2, d3, d4] => { results := [.lit (.bool true)], args := [d1, d2, d3, d4] }
  | _ => none }
def precMoreRow : OpenClaim := { program := "ytgodkmenemlccaa", sum := "fe7d6d18f20e7cd43cda6dfc8d91cd8700a9ae7ef222cef20a4269bc033af3ca", func := "lodestone/lodestonelaw10.PrecMore", spec := "precMore", apart := false }
def PrecMoreSaid : Prop := precMoreRow.holds Try.pinned (OpenSpec.ofChange precMoreSpec)

/-- ITS FALSE NEIGHBOUR: 'it returns false'. Refute it at one input. -/
def precMoreWrong : ChangeSpec := { name := "precMore", fn := fun _ => fun
  | [d1, d2, d3, d4] => { results := [.lit (.bool false)], args := [d1, d2, d3, d4] }
  | _ => none }
def PrecMoreWrongFalsely : Prop := precMoreRow.holds Try.pinned (OpenSpec.ofChange precMoreWrong)

/-- 'lodestonelaw10.PrecSame': WHATEVER THE INPUT: true; the input reads as it did. -/
def precSameSpec : ChangeSpec := { name := "precSame", fn := fun _ => fun
  | [d1, d2, d3, d4] => { results := [.lit (.bool true)], args := [d1, d2, d3, d4] }
  | _ => none }
def precSameRow : OpenClaim := { program := "ytgodkmenemlccaa", sum := "fe7d6d18f20e7cd43cda6dfc8d91cd8700a9ae7ef222cef20a4269bc033af3ca", func := "lodestone/lodestonelaw10.PrecSame", spec := "precSame", apart := false }
def PrecSameSaid : Prop := precSameRow.holds Try.pinned (OpenSpec.ofChange precSameSpec)

/-- ITS FALSE NEIGHBOUR: 'it returns false'. Refute it at one input. -/
def precSameWrong : ChangeSpec := { name := "precSame", fn := fun _ => fun
  | [d1, d2, d3, d4] => { results := [.lit (.bool false)], args := [d1, d2, d3, d4] }
  | _ => none }
def PrecSameWrongFalsely : Prop := precSameRow.holds Try.pinned (OpenSpec.ofChange precSameWrong)

/- THE SECOND FORM. 'bulk': how many values and letters a reading holds, each counted each time it is reached (what is shared counts as often as it is met; a slice's spare places count too). A statement '..UptoSaid' is the law's where the arguments, and the package variables that the reading takes, are together of bulk at most 1048576: NARROWER than '..Said'. Prove '..Said' where nothing that the law and all that it calls make is longer than what came in: it says more and counts as full. Else prove '..UptoSaid'. A law counts once. -/
mutual
def uptoBulk {H : Type} : DataW H → Nat
  | .lit (.string bytes) => bytes.length + 1
  | .lit _ => 1
  | .nil => 1
  | .ptr d => uptoBulk d + 1
  | .slice elems spare => uptoBulkAll elems + uptoBulkAll spare + 1
  | .agg parts => uptoBulkAll parts + 1
  | .iface _ d => uptoBulk d + 1
  | .map entries => uptoBulkEntries entries + 1
  | .held _ => 1
def uptoBulkAll {H : Type} : List (DataW H) → Nat
  | [] => 0
  | d :: r => uptoBulk d + uptoBulkAll r
def uptoBulkEntries {H : Type} : List (Lit × DataW H) → Nat
  | [] => 0
  | x :: r => uptoBulkEntry x + uptoBulkEntries r
def uptoBulkEntry {H : Type} : Lit × DataW H → Nat
  | (.string bytes, d) => bytes.length + uptoBulk d + 1
  | (_, d) => uptoBulk d + 1
 end
def uptoSmall : (H : Type) → List (DataW H) → Bool := fun _ ds => decide (uptoBulkAll ds ≤ 1048576)
def OpenSpec.upto (s : _root_.Go.ChangeSpec) : _root_.Go.OpenSpec := { _root_.Go.OpenSpec.ofChange s with cond := some uptoSmall }

/-- 'lodestonelaw10.PrecCloses', WHERE WHAT IT READS IS OF BULK AT MOST 1048576: true; the input reads as it did. -/
def precClosesUptoRow : OpenClaim := { program := "ytgodkmenemlccaa", sum := "fe7d6d18f20e7cd43cda6dfc8d91cd8700a9ae7ef222cef20a4269bc033af3ca", func := "lodestone/lodestonelaw10.PrecCloses", spec := "precCloses", apart := false, narrowed := true }
def PrecClosesUptoSaid : Prop := precClosesUptoRow.holds Try.pinned (OpenSpec.upto precClosesSpec)

/-- 'lodestonelaw10.PrecOrders', WHERE WHAT IT READS IS OF BULK AT MOST 1048576: true; the input reads as it did. -/
def precOrdersUptoRow : OpenClaim := { program := "ytgodkmenemlccaa", sum := "fe7d6d18f20e7cd43cda6dfc8d91cd8700a9ae7ef222cef20a4269bc033af3ca", func := "lodestone/lodestonelaw10.PrecOrders", spec := "precOrders", apart := false, narrowed := true }
def PrecOrdersUptoSaid : Prop := precOrdersUptoRow.holds Try.pinned (OpenSpec.upto precOrdersSpec)

/-- 'lodestonelaw10.PrecAlone', WHERE WHAT IT READS IS OF BULK AT MOST 1048576: true; the input reads as it did. -/
def precAloneUptoRow : OpenClaim := { program := "ytgodkmenemlccaa", sum := "fe7d6d18f20e7cd43cda6dfc8d91cd8700a9ae7ef222cef20a4269bc033af3ca", func := "lodestone/lodestonelaw10.PrecAlone", spec := "precAlone", apart := false, narrowed := true }
def PrecAloneUptoSaid : Prop := precAloneUptoRow.holds Try.pinned (OpenSpec.upto precAloneSpec)

/-- 'lodestonelaw10.PrecMore', WHERE WHAT IT READS IS OF BULK AT MOST 1048576: true; the input reads as it did. -/
def precMoreUptoRow : OpenClaim := { program := "ytgodkmenemlccaa", sum := "fe7d6d18f20e7cd43cda6dfc8d91cd8700a9ae7ef222cef20a4269bc033af3ca", func := "lodestone/lodestonelaw10.PrecMore", spec := "precMore", apart := false, narrowed := true }
def PrecMoreUptoSaid : Prop := precMoreUptoRow.holds Try.pinned (OpenSpec.upto precMoreSpec)

/-- 'lodestonelaw10.PrecSame', WHERE WHAT IT READS IS OF BULK AT MOST 1048576: true; the input reads as it did. -/
def precSameUptoRow : OpenClaim := { program := "ytgodkmenemlccaa", sum := "fe7d6d18f20e7cd43cda6dfc8d91cd8700a9ae7ef222cef20a4269bc033af3ca", func := "lodestone/lodestonelaw10.PrecSame", spec := "precSame", apart := false, narrowed := true }
def PrecSameUptoSaid : Prop := precSameUptoRow.holds Try.pinned (OpenSpec.upto precSameSpec)

end Rows
end Go.Proofs.Ytgodkmenemlccaa
