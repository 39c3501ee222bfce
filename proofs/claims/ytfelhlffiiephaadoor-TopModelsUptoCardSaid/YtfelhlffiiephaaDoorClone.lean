/- A copy of a row. Conditions: none. -/
import Derived.Test.YtfelhlffiiephaaDoorRow
set_option linter.unusedVariables false
set_option linter.unusedSimpArgs false
namespace Go.Proofs.YtfelhlffiiephaaDoor
open Go.RowKit Go.Lib

theorem nil_is (w : World) : (binOp .eql 38 (.slice none 0 0) (.slice none 0 0)).run Tryd.prog w = .ok (.bool true) w := by kernel_rfl
theorem nil_not (b : Addr) (n c : Nat) (w : World) : (binOp .eql 38 (.slice (some b) n c) (.slice none 0 0)).run Tryd.prog w = .ok (.bool false) w := by kernel_rfl
set_option maxRecDepth 100000 in
theorem clone_any (B : Option Addr) (t : List Int) (tc : Nat) (w : World) (ht : Ints w B t) (hn : B = none → t.length = 0 ∧ tc = 0) (h8 : t.length * 8 ≤ 140737488355328) :
    Calls Tryd.prog 45 #[.slice B t.length tc] w fun e w' => ∃ v, e = .returned v ∧ Below w.heap.size w w' ∧ RowO w' w.heap.size v t := by
  cases B with
  | none =>
    obtain ⟨h0, rfl⟩ := hn rfl
    obtain rfl : t = [] := List.eq_nil_of_length_eq_zero h0
    have hnil := nil_is
    go_enter Tryd.func45, Tryd.ntmps45
    go_wp2_with fail
    go_ret
    exact ⟨_, rfl, Below.refl _ _, RowO.nil _ _⟩
  | some b =>
    obtain ⟨hb, hhb⟩ : ∃ x, x = w.heap.size := ⟨_, rfl⟩
    have hown0 := own_empty w 3 1 hb hhb
    have ht' := (ht.kept (below_alloc0 w (.cells #[] 3)))
    have hr := ht.1
    have hnil := nil_not
    go_enter Tryd.func45, Tryd.ntmps45
    rw [hhb] at hown0
    have HHB := Lib.hid hhb
    clear hhb
    go_wp2_with (at_builtin; refine push_all (.tmp 5) (.tmp 6) 38 3 (.int .i64 0) 1 8 rfl rfl Tryd.underlying38 infoInt rfl (by decide) (by decide) w.heap.size _ 0 [] (icells t) rfl hown0 (some b) t.length tc rfl hn (icells_length _) ht'.cells (icells_one _) (by omega) (by simp) ?_; intro v' w3 ho3 hg3 ha3)
    go_ret
    simp only [Nat.zero_add, List.nil_append] at ho3
    exact ⟨_, rfl, below_row (below_alloc0 _ _) (by simp) hown0 hg3, ho3, h8, hr⟩

end Go.Proofs.YtfelhlffiiephaaDoor
