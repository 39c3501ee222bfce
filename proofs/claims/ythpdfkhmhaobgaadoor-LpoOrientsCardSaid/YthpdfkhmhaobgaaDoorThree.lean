/- The document's signature. Conditions: none. -/
import Derived.Test.YthpdfkhmhaobgaaDoorRow
set_option linter.unusedVariables false
set_option linter.unusedSimpArgs false
namespace Go.Proofs.YthpdfkhmhaobgaaDoor
open Go.RowKit Go.Lib

def threeL : List Sy := [(⟨#[122, 101, 114, 111]⟩, 0), (⟨#[115]⟩, 1), (⟨#[112, 108, 117, 115]⟩, 2)]
set_option maxRecDepth 100000 in
theorem three_any (w : World) : Calls Tryd.prog 23 #[] w fun e w' => ∃ A, e = .returned (.slice A 3 3) ∧ Below w.heap.size w w' ∧ Sigs w' A threeL := by
  go_enter Tryd.func23, Tryd.ntmps23
  go_wp2_with fail
  go_ret
  refine ⟨_, rfl, below_alloc0 _ _, ?_, by decide, fun _ => ⟨w.heap.size, 0, rfl, fun k hk => ?_⟩⟩
  · intro x hx
    simp [threeL] at hx
    rcases hx with rfl | rfl | rfl <;> decide
  · have hk' : k < 3 := hk
    rw [World.cell?_alloc_new, World.cell?_alloc_new]
    match k, hk' with
    | 0, _ => exact ⟨rfl, rfl⟩
    | 1, _ => exact ⟨rfl, rfl⟩
    | 2, _ => exact ⟨rfl, rfl⟩
end Go.Proofs.YthpdfkhmhaobgaaDoor
