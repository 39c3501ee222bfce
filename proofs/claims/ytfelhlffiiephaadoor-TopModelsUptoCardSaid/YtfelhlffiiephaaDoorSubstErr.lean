/- What is wrong with binds. Conditions: none. -/
import Derived.Test.YtfelhlffiiephaaDoorBind
set_option linter.unusedVariables false
set_option linter.unusedSimpArgs false
namespace Go.Proofs.YtfelhlffiiephaaDoor
open Go.RowKit Go.Lib

theorem binds_eq (a b : List Bd) (h : a.length = b.length) (hk : ∀ k, k < a.length → a.getD k bd0 = b.getD k bd0) : a = b := by
  apply List.ext_getElem h
  intro i h1 h2
  have := hk i h1
  simpa [List.getD_eq_getElem?_getD, List.getElem?_eq_getElem h1, List.getElem?_eq_getElem h2] using this
/-! ### checks -/
/-- What is wrong with the bind at a place. -/
def bindErr (l : List Sy) (s : List Bd) (i : Nat) : Int :=
  if (s.getD i bd0).1 < 0 ∨ 1048576 ≤ (s.getD i bd0).1 then 40 else if 0 < i ∧ (s.getD i bd0).1 ≤ (s.getD (i - 1) bd0).1 then 41 else rowErr l (s.getD i bd0).2
def bindsFrom (l : List Sy) (s : List Bd) : Nat → Nat → Int
  | 0, _ => 0
  | f + 1, i => if bindErr l s i = 0 then bindsFrom l s f (i + 1) else bindErr l s i
/-- What is wrong with binds. -/
def substErr (l : List Sy) (s : List Bd) : Int := if sigErr l ≠ 0 then sigErr l else bindsFrom l s s.length 0

theorem if_err {R e X c : Int} (h : R = if e = 0 then X else e) (he : e = c) (hc : c ≠ 0) : R = c := by subst he; rw [h, if_neg hc]
theorem if_ok {R e X : Int} (h : R = if e = 0 then X else e) (he : e = 0) : R = X := by rw [h, if_pos he]
theorem bindErr_of {l : List Sy} {s : List Bd} {k : Nat} {x : Int} {t : List Int} (h : s.getD k bd0 = (x, t)) :
    bindErr l s k = if x < 0 ∨ 1048576 ≤ x then 40 else if 0 < k ∧ x ≤ (s.getD (k - 1) bd0).1 then 41 else rowErr l t := by unfold bindErr; rw [h]
end Go.Proofs.YtfelhlffiiephaaDoor
