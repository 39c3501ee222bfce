/- A row is itself; what stands in a row of the call's own. Conditions: none. -/
import Derived.Test.YtldnokeejinebaaDoorShown
set_option linter.unusedVariables false
set_option linter.unusedSimpArgs false
namespace Go.Proofs.YtldnokeejinebaaDoor
open Go.RowKit Go.Lib

theorem same_self (A B : Option Addr) (t : List Int) (c d : Nat) (w : World) (ht : Ints w A t) (hu : Ints w B t) :
    Calls Tryd.prog 17 #[.slice A t.length c, .slice B t.length d] w fun e w' => e = .returned (.bool true) ∧ Below w.heap.size w w' := by
  have h := same_any A B t t c d w ht hu
  have e : decide (t = t) = true := decide_eq_true rfl
  exact h.mono fun e' w' h => ⟨by rw [h.1, e], h.2⟩
theorem sameBinds_self (A B : Option Addr) (s : List Bd) (c d : Nat) (w : World) (ht : Binds w A s) (hu : Binds w B s) :
    Calls Tryd.prog 14 #[.slice A s.length c, .slice B s.length d] w fun e w' => e = .returned (.bool true) ∧ Below w.heap.size w w' := by
  have h := sameBinds_any A B s s c d w ht hu
  have e : decide (s = s) = true := decide_eq_true rfl
  exact h.mono fun e' w' h => ⟨by rw [h.1, e], h.2⟩
theorem RowO.take {w : World} {base g m cap : Nat} {t u : List Int} (h : RowO w base (.slice (some ⟨g, 0, none⟩) m cap) (t ++ u)) (hm : m = t.length + u.length) : Ints w (some ⟨g, 0, none⟩) t := by
  obtain ⟨h1, h2, h3⟩ := h
  rw [List.length_append] at h1 h2
  subst hm
  refine ⟨fun x hx => h3 x (by simp [hx]), by omega, fun h0 => ⟨g, 0, rfl, fun k hk => ?_⟩⟩
  rw [Nat.zero_add, h1.cellAt k (by omega), icells_append, List.getElem?_append_left (by rw [icells_length]; omega)]
  exact icells_at t k hk
theorem RowO.last {w : World} {base g m cap k : Nat} {t : List Int} {x : Int} (h : RowO w base (.slice (some ⟨g, 0, none⟩) m cap) (t ++ [x])) (hm : m = t.length + 1) (hk : k = t.length) : w.cell? ⟨g, k, none⟩ = some (.int .i64 x) := by
  obtain ⟨h1, h2, h3⟩ := h
  rw [List.length_append] at h1
  subst hm hk
  rw [h1.cellAt t.length (by simp), icells_append, List.getElem?_append_right (by rw [icells_length]; omega)]
  simp [icells]
theorem RowO.ints' {w : World} {base n c : Nat} {A : Option Addr} {t : List Int} (h : RowO w base (.slice A n c) t) : Ints w A t := by
  obtain ⟨A', c', e, hI⟩ := h.ints
  cases e
  exact hI
end Go.Proofs.YtldnokeejinebaaDoor
