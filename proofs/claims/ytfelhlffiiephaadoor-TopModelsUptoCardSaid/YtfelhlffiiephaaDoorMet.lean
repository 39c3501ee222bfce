/- The codes that are met, as they are met. Conditions: none. -/
import Derived.Test.YtfelhlffiiephaaDoorRow
set_option linter.unusedVariables false
set_option linter.unusedSimpArgs false
namespace Go.Proofs.YtfelhlffiiephaaDoor
open Go.RowKit Go.Lib

/-- The variables that were met, and one more. -/
def meet (met : List Int) (c : Int) : List Int := if c ∈ met then met else met ++ [c]
theorem meet_length (met : List Int) (c : Int) : (meet met c).length ≤ met.length + 1 := by unfold meet; split <;> simp
theorem meet_in {met : List Int} {c : Int} (hc : c ∈ met) : meet met c = met := by unfold meet; rw [if_pos hc]
theorem idx_meet (met : List Int) (c : Int) : (meet met c).idxOf c = met.idxOf c := by
  unfold meet
  by_cases h : c ∈ met
  · rw [if_pos h]
  · rw [if_neg h, List.idxOf_append, if_neg h, List.idxOf_eq_length h]; simp
theorem mem_meet (met : List Int) (c : Int) : c ∈ meet met c := by
  unfold meet
  by_cases h : c ∈ met
  · rw [if_pos h]; exact h
  · rw [if_neg h]; simp
/-- The variables' codes that are met, behind others. -/
def metVars : List Int → List Int → List Int
  | met, [] => met
  | met, c :: t => metVars (if c < 0 then meet met c else met) t
/-- The variables of a row. -/
def varsOf (t : List Int) : List Int := (metVars [] t).map fun c => -1 - c
theorem metVars_step {met t : List Int} {k : Nat} {c : Int} (hk : k < t.length) (hc : t.getD k 0 = c) : metVars met (t.drop k) = metVars (if c < 0 then meet met c else met) (t.drop (k + 1)) := by
  rw [drop_cons t k hk, hc, metVars]
theorem metVars_end {met t : List Int} : metVars met (t.drop t.length) = met := by rw [List.drop_length]; rfl
theorem icells_neg (met : List Int) (c : Int) : icells ((met ++ [c]).map fun c => -1 - c) = icells (met.map fun c => -1 - c) ++ icells [-1 - c] := by simp [icells]
theorem metVars_neg : ∀ (t met : List Int), (∀ c ∈ met, c < 0) → ∀ c ∈ metVars met t, c < 0
  | [], met, h, c, hc => h c hc
  | d :: t, met, h, c, hc => by
    unfold metVars at hc
    refine metVars_neg t _ (fun x hx => ?_) c hc
    by_cases hd : d < 0
    · rw [if_pos hd] at hx
      unfold meet at hx
      split at hx
      · exact h x hx
      · rcases List.mem_append.1 hx with hx | hx
        · exact h x hx
        · simp at hx; subst hx; exact hd
    · rw [if_neg hd] at hx; exact h x hx
theorem metVars_len : ∀ (t met : List Int), (metVars met t).length ≤ met.length + t.length
  | [], met => Nat.le_refl _
  | c :: t, met => by
    unfold metVars
    have h := metVars_len t (if c < 0 then meet met c else met)
    have h2 : (if c < 0 then meet met c else met).length ≤ met.length + 1 := by
      split
      · exact meet_length _ _
      · omega
    simp only [List.length_cons]
    omega
theorem vars_len (t : List Int) : (varsOf t).length ≤ t.length := by
  unfold varsOf
  rw [List.length_map]
  have := metVars_len t []
  simpa using this
theorem met_mem : ∀ (t met : List Int) (c : Int), c ∈ met ∨ (c ∈ t ∧ c < 0) → c ∈ metVars met t
  | [], met, c, h => by rcases h with h | ⟨h, _⟩; exact h; cases h
  | d :: t, met, c, h => by
    unfold metVars
    refine met_mem t _ c ?_
    rcases h with h | ⟨h, hn⟩
    · refine .inl ?_
      split
      · unfold meet; split
        · exact h
        · simp [h]
      · exact h
    · rcases List.mem_cons.1 h with rfl | h
      · refine .inl ?_
        rw [if_pos hn]
        unfold meet; split
        · assumption
        · simp
      · exact .inr ⟨h, hn⟩
theorem met_mem' : ∀ (t met : List Int) (c : Int), c ∈ metVars met t → c ∈ met ∨ (c ∈ t ∧ c < 0)
  | [], met, c, h => .inl h
  | d :: t, met, c, h => by
    unfold metVars at h
    rcases met_mem' t _ c h with h | ⟨h, hn⟩
    · by_cases hd : d < 0
      · rw [if_pos hd] at h
        unfold meet at h
        split at h
        · exact .inl h
        · rcases List.mem_append.1 h with h | h
          · exact .inl h
          · simp at h; subst h; exact .inr ⟨by simp, hd⟩
      · rw [if_neg hd] at h; exact .inl h
    · exact .inr ⟨by simp [h], hn⟩
/-- Which variables a row has. -/
theorem mem_vars {t : List Int} {x : Int} : x ∈ varsOf t ↔ ∃ c, c ∈ t ∧ c < 0 ∧ x = -1 - c := by
  unfold varsOf
  constructor
  · intro h
    obtain ⟨c, hc, rfl⟩ := List.mem_map.1 h
    rcases met_mem' t [] c hc with h | ⟨h, hn⟩
    · cases h
    · exact ⟨c, h, hn, rfl⟩
  · rintro ⟨c, h, hn, rfl⟩
    exact List.mem_map_of_mem (f := fun c => -1 - c) (met_mem t [] c (.inr ⟨h, hn⟩))
theorem vars_sub {t u : List Int} (h : ∀ c ∈ t, c ∈ u) : ∀ x ∈ varsOf t, x ∈ varsOf u := fun x hx => by
  obtain ⟨c, hc, hn, rfl⟩ := mem_vars.1 hx
  exact mem_vars.2 ⟨c, h c hc, hn, rfl⟩

end Go.Proofs.YtfelhlffiiephaaDoor
