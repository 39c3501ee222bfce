/- What a node is: the assertions that hold. Conditions: none. -/
import Derived.Test.YtfelhlffiiephaaDoorRead
set_option linter.unusedVariables false
set_option linter.unusedSimpArgs false
namespace Go.Proofs.YtfelhlffiiephaaDoor
open Go.RowKit Go.Lib

theorem assert_inner_ok (b : Nat) (w : World) : (Instr.typeAssert (innerV b) 78 114 true).run Tryd.prog w = .ok (.tuple #[.pointer (some ⟨b, 0, none⟩), .bool true]) w := by kernel_rfl
theorem assert_leaf_ok (n : Int) (w : World) : (Instr.typeAssert (leafV n) 78 114 true).run Tryd.prog w = .ok (.tuple #[.pointer none, .bool false]) w := by kernel_rfl
end Go.Proofs.YtfelhlffiiephaaDoor
