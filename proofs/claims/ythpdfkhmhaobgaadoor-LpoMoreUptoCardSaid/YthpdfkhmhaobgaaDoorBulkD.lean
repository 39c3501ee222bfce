/- What the bound of an Upto statement gives for rows and lists of rows. Conditions: none. -/
import Derived.Test.YthpdfkhmhaobgaaDoorBulk
import Derived.Test.YthpdfkhmhaobgaaDoorCanon
set_option linter.unusedVariables false
namespace Go.Proofs.YthpdfkhmhaobgaaDoor
theorem row_bulk {H : Type} {d : DataW H} {t : List Int} (h : d = .nil ∧ t = [] ∨ ∃ (el sp : List (DataW H)), d = .slice el sp ∧ el.length = t.length) : t.length ≤ Rows.uptoBulk d := by
  rcases h with ⟨_, rfl⟩ | ⟨el, sp, rfl, h⟩
  · simp
  · have := bulks.slice_le el sp
    omega
theorem rows_bulk_all {H : Type} : ∀ (l : List (List Int)) (el : List (DataW H)), el.length = l.length → (∀ k, k < l.length → ∃ d, el[k]? = some d ∧ (d = .nil ∧ l.getD k [] = [] ∨ ∃ (el' sp' : List (DataW H)), d = .slice el' sp' ∧ el'.length = (l.getD k []).length)) → bulkOf l ≤ Rows.uptoBulkAll el
  | [], el, _, _ => by simp [bulkOf]
  | t :: l, [], h, _ => by simp at h
  | t :: l, e :: el, h, hk => by
    obtain ⟨d, hd, h0⟩ := hk 0 (by simp)
    simp at hd
    subst hd
    have h1 := row_bulk (t := t) h0
    have h2 := rows_bulk_all l el (by simpa using h) (fun k hkl => by
      obtain ⟨d, hd, h3⟩ := hk (k + 1) (by simp; omega)
      exact ⟨d, by simpa using hd, by simpa using h3⟩)
    simp only [bulkOf, List.map_cons, List.sum_cons, Rows.uptoBulkAll] at h2 ⊢
    omega
theorem rows_bulk {H : Type} {d : DataW H} {l : List (List Int)} (h : d = .nil ∧ l = [] ∨ ∃ (el sp : List (DataW H)), d = .slice el sp ∧ el.length = l.length ∧ ∀ k, k < l.length → ∃ d, el[k]? = some d ∧ (d = .nil ∧ l.getD k [] = [] ∨ ∃ (el' sp' : List (DataW H)), d = .slice el' sp' ∧ el'.length = (l.getD k []).length)) : bulkOf l ≤ Rows.uptoBulk d := by
  rcases h with ⟨_, rfl⟩ | ⟨el, sp, rfl, h1, h2⟩
  · simp [bulkOf]
  · have := rows_bulk_all l el h1 h2
    simp only [Rows.uptoBulk]
    omega
end Go.Proofs.YthpdfkhmhaobgaaDoor
