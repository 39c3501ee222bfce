/- What binds make of a row. Conditions: none. -/
import Derived.Test.YtfelhlffiiephaaDoorSubstErr
set_option linter.unusedVariables false
set_option linter.unusedSimpArgs false
namespace Go.Proofs.YtfelhlffiiephaaDoor
open Go.RowKit Go.Lib

/-- What a variable is bound to. -/
def boundIn (s : List Bd) (v : Int) : Option (List Int) := (s.find? fun b => b.1 == v).map (·.2)
theorem bound_skip (s : List Bd) (v : Int) : ∀ k, k ≤ s.length → (∀ j, j < k → (s.getD j bd0).1 ≠ v) → boundIn s v = boundIn (s.drop k) v
  | 0, _, _ => by simp
  | k + 1, hk, h => by
    rw [bound_skip s v k (by omega) (fun j hj => h j (by omega))]
    have hd : s.drop k = s.getD k bd0 :: s.drop (k + 1) := by
      rw [List.drop_eq_getElem_cons (show k < s.length by omega)]; simp [List.getD_eq_getElem?_getD, List.getElem?_eq_getElem (show k < s.length by omega)]
    rw [hd, boundIn, List.find?_cons]
    have := h k (by omega)
    rw [show ((s.getD k bd0).1 == v) = false from beq_eq_false_iff_ne.2 this]
    rfl
theorem bound_hit {s : List Bd} {v : Int} {k : Nat} (hk : k < s.length) (h : ∀ j, j < k → (s.getD j bd0).1 ≠ v) (hv : (s.getD k bd0).1 = v) : boundIn s v = some (s.getD k bd0).2 := by
  rw [bound_skip s v k (by omega) h]
  have hd : s.drop k = s.getD k bd0 :: s.drop (k + 1) := by
    rw [List.drop_eq_getElem_cons hk]; simp [List.getD_eq_getElem?_getD, List.getElem?_eq_getElem hk]
  rw [hd, boundIn, List.find?_cons, show ((s.getD k bd0).1 == v) = true from beq_iff_eq.2 hv]
  rfl
theorem bound_miss {s : List Bd} {v : Int} (h : ∀ j, j < s.length → (s.getD j bd0).1 ≠ v) : boundIn s v = none := by
  rw [bound_skip s v s.length (Nat.le_refl _) h, List.drop_length]; rfl
/-- What a code becomes. -/
def become (s : List Bd) (c : Int) : List Int := if c < 0 then (boundIn s (-1 - c)).getD [c] else [c]
/-- What binds make of a row, behind what they have made. -/
def laidOn (s : List Bd) : List Int → List Int → Option (List Int)
  | acc, [] => some acc
  | acc, c :: t => if 512 < acc.length + (become s c).length then none else laidOn s (acc ++ become s c) t
def applyErr (l : List Sy) (s : List Bd) (t : List Int) : Int :=
  if substErr l s ≠ 0 then substErr l s else if termErr l t ≠ 0 then termErr l t else if (laidOn s [] t).isSome then 0 else 2
def applied (l : List Sy) (s : List Bd) (t : List Int) : List Int := if applyErr l s t = 0 then (laidOn s [] t).getD [] else []
theorem become_range {s : List Bd} {c : Int} (hs : ∀ x ∈ s, ∀ y ∈ x.2, -9223372036854775808 ≤ y ∧ y ≤ 9223372036854775807) (hc : -9223372036854775808 ≤ c ∧ c ≤ 9223372036854775807) : ∀ y ∈ become s c, -9223372036854775808 ≤ y ∧ y ≤ 9223372036854775807 := by
  intro y hy
  unfold become at hy
  split at hy
  · unfold boundIn at hy
    cases hf : s.find? (fun b => b.1 == -1 - c) with
    | none => rw [hf] at hy; simp at hy; subst hy; exact hc
    | some b => rw [hf] at hy; exact hs b (List.mem_of_find?_eq_some hf) y hy
  · simp at hy; subst hy; exact hc
theorem Binds.range {w : World} {A : Option Addr} {s : List Bd} (h : Binds w A s) : ∀ x ∈ s, ∀ y ∈ x.2, -9223372036854775808 ≤ y ∧ y ≤ 9223372036854775807 := by
  intro x hx
  obtain ⟨k, hk, rfl⟩ := List.getElem_of_mem hx
  obtain ⟨b, off, x, t, C, d, _, hx, _, _, _, _, _, _, _, ht⟩ := h.at_ hk
  rw [List.getD_eq_getElem?_getD, List.getElem?_eq_getElem hk] at hx
  have e : s[k] = (x, t) := hx
  rw [e]
  exact ht.1
theorem laid_step {s : List Bd} {acc t : List Int} {k : Nat} {c : Int} (hk : k < t.length) (hc : t.getD k 0 = c) : laidOn s acc (t.drop k) = if 512 < acc.length + (become s c).length then none else laidOn s (acc ++ become s c) (t.drop (k + 1)) := by
  rw [drop_cons t k hk, hc]; rfl
theorem laid_end {s : List Bd} {acc t : List Int} : laidOn s acc (t.drop t.length) = some acc := by rw [List.drop_length]; rfl
end Go.Proofs.YtfelhlffiiephaaDoor
