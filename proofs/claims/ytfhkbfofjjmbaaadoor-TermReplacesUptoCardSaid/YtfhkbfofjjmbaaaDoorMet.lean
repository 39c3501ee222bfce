/- The codes that are met, as they are met. Conditions: none. -/
import Derived.Test.YtfhkbfofjjmbaaaDoorRow
set_option linter.unusedVariables false
set_option linter.unusedSimpArgs false
namespace Go.Proofs.YtfhkbfofjjmbaaaDoor
open Go.RowKit Go.Lib

/-- The variables that were met, and one more. -/
def meet (met : List Int) (c : Int) : List Int := if c ∈ met then met else met ++ [c]
theorem meet_length (met : List Int) (c : Int) : (meet met c).length ≤ met.length + 1 := by unfold meet; split <;> simp
theorem meet_in {met : List Int} {c : Int} (hc : c ∈ met) : meet met c = met := by unfold meet; rw [if_pos hc]
theorem idx_meet (met : List Int) (c : Int) : (meet met c).idxOf c = met.idxOf c := by
  unfold meet
  by_cases h : c ∈ met
  · rw [if_pos h]
  · rw [if_neg h, List.idxOf_append, if_neg h, List.idxOf_eq_length h]; simp
theorem mem_meet (met : List Int) (c : Int) : c ∈ meet met c := by
  unfold meet
  by_cases h : c ∈ met
  · rw [if_pos h]; exact h
  · rw [if_neg h]; simp
end Go.Proofs.YtfhkbfofjjmbaaaDoor
