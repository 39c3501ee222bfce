/- slices.Grow of no row, and slices.Concat of any rows of numbers. Conditions: all together hold at most 2^44 numbers. -/
import Derived.Test.YtfelhlffiiephaaDoorMake
import Derived.Test.YtfelhlffiiephaaDoorCanon
import Derived.Lib.AppendZeros
set_option linter.unusedVariables false
set_option linter.unusedSimpArgs false
namespace Go.Proofs.YtfelhlffiiephaaDoor
open Go.RowKit Go.Lib

set_option maxRecDepth 100000 in
theorem grow_any (n : Nat) (w : World) (h8 : n * 8 ≤ 140737488355328) :
    Calls Tryd.prog 49 #[.slice none 0 0, .int .i64 n] w fun e w' => ∃ v, e = .returned v ∧ Below w.heap.size w w' ∧ RowO w' w.heap.size v [] := by
  cases n with
  | zero =>
    go_enter Tryd.func49, Tryd.ntmps49
    go_wp2_with fail
    go_ret
    exact ⟨_, rfl, Below.refl _ _, RowO.nil _ _⟩
  | succ n =>
    obtain ⟨m, hm⟩ : ∃ m, m = n + 1 := ⟨_, rfl⟩
    rw [← hm] at h8 ⊢
    have hm0 : 0 < m := by omega
    clear hm
    obtain ⟨i, hi, hz0, hz1, hz2⟩ := info_parts infoInt
    have hrun := fun ty => run_append_nil_zeros (P := Tryd.prog) w 38 3 ty 3 i (.int .i64 0) .i64 .i64 Tryd.underlying38 Tryd.underlying3 hi hz0 m hm0 (by omega) (by omega) (by rw [hz2]; omega)
    have hcap := grownCap_ge w m 0 3
    have hcm := grownCap_le_maxLen w m 0 3 (by simp only [maxLen]; omega)
    generalize grownCap w m 0 3 = C at hrun hcap hcm
    have hown : (w.drew.alloc (.cells (Builtin.zeroCells (Value.int .i64 0).cells m ++ Builtin.zeroCells (Value.int .i64 0).cells (C - m)) 3)).ownsRow w.heap.size 3 1 (.slice (some ⟨w.heap.size, 0, none⟩) 0 C) 0 [] :=
      World.ownsRow_made w.drew _ C (Nat.le_refl _) hcm (by simp [Builtin.zeroCells, Value.cells]; omega)
    have HO := Lib.hid hown
    clear hown
    go_enter Tryd.func49, Tryd.ntmps49
    go_wp2_with (at_builtin; refine wpList_append_run _ rfl _ _ 38 3 rfl _ _ rfl rfl _ _ (hrun _) ?_)
    go_ret
    exact ⟨_, rfl, below_alloc (below_draw (Below.refl _ _)) (Nat.le_refl _) _, HO.out, by simp, fun x hx => by cases hx⟩

theorem flat_take {l : List (List Int)} {k : Nat} (h : k < l.length) : (l.take (k + 1)).flatten = (l.take k).flatten ++ l.getD k [] := by
  rw [take_succ' l [] h]; simp
theorem flat_le {l : List (List Int)} (k : Nat) : (l.take k).flatten.length ≤ l.flatten.length := by
  have e : l.flatten = (l.take k).flatten ++ (l.drop k).flatten := by rw [← List.flatten_append, List.take_append_drop]
  rw [e, List.length_append]; omega
set_option maxRecDepth 100000 in
set_option maxHeartbeats 2000000 in
theorem concat_any (A : Option Addr) (l : List (List Int)) (c : Nat) (w : World) (hl : RowsIn w A l) (h8 : l.flatten.length * 8 ≤ 140737488355328) :
    Calls Tryd.prog 48 #[.slice A l.length c] w fun e w' => ∃ v, e = .returned v ∧ Below w.heap.size w w' ∧ RowO w' w.heap.size v l.flatten := by
  have m1 := hl.1
  go_enter Tryd.func48, Tryd.ntmps48
  go_wp2_with fail
  go_loopg [3, 11] l.length (fun gk s i wx => ∃ k : Nat, Aside (gk + k = l.length) ∧ s = .int .i64 ((l.take k).flatten.length : Nat) ∧ i = .int .i64 k ∧ w = wx)
  case atStart => exact ⟨0, (rfl : l.length + 0 = _), rfl, rfl, rfl⟩
  case round =>
    obtain ⟨k, hg, rfl, rfl, rfl⟩ := hrel
    have hk : k ≤ l.length := by have := hg.out; omega
    by_cases hlt : k < l.length
    · obtain ⟨b, off, t, B, tc, rfl, ht, hct, _, _, ht8, hI⟩ := hl.at_ hlt
      have hs := flat_le (l := l) (k + 1)
      rw [flat_take hlt, ht, List.length_append] at hs
      obtain ⟨S, hS⟩ : ∃ S, S = (l.take k).flatten.length := ⟨_, rfl⟩
      have HN : Hid ((l.take (k + 1)).flatten.length = S + t.length) := Lib.hid (by rw [flat_take hlt, ht, List.length_append, hS])
      rw [← hS] at hs ⊢
      have htl : t.length ≤ 140737488355328 := by omega
      have hSl : S ≤ 140737488355328 := by omega
      clear ht hS hs
      go_wp2_with fail
      go_roundg (l.length - (k + 1))
      case measure => have := hg.out; omega
      case rel => exact ⟨k + 1, by have := hg.out; show _ = _; omega, by rw [HN.out]; go_num, by go_num, rfl⟩
    · have hkn : k = l.length := by omega
      subst hkn
      rw [List.take_length]
      obtain ⟨S, hS⟩ : ∃ S, S = l.flatten.length := ⟨_, rfl⟩
      rw [← hS] at h8 ⊢
      have HS := Lib.hid hS
      have hSl : S ≤ 140737488355328 := by omega
      have cG := grow_any S w h8
      clear hS
      go_wp2_with fail
      refine cG.mono ?_
      rintro e w1 ⟨v, rfl, hb1, hO1⟩
      clear cG
      go_wp2_with fail
      go_loopg [6, 27] l.length (fun gk V i wx => ∃ k : Nat, Aside (gk + k = l.length) ∧ i = .int .i64 k ∧ Below w.heap.size w wx ∧ RowO wx w.heap.size V (l.take k).flatten)
      case atStart => exact ⟨0, (rfl : l.length + 0 = _), rfl, hb1, by simpa using hO1⟩
      case round =>
        clear hb1 hO1
        obtain ⟨k, hg, rfl, hB, hO⟩ := hrel
        have hk : k ≤ l.length := by have := hg.out; omega
        by_cases hlt : k < l.length
        · obtain ⟨b, off, t, B, tc, rfl, ht, hct, htn, hBn, ht8, hI⟩ := (hl.kept hB).at_ hlt
          have hs := flat_le (l := l) (k + 1)
          rw [flat_take hlt, ht, List.length_append, ← HS.out] at hs
          obtain ⟨X, hX⟩ : ∃ X, X = (l.take k).flatten := ⟨_, rfl⟩
          have HN : Hid ((l.take (k + 1)).flatten = X ++ t) := Lib.hid (by rw [flat_take hlt, ht, hX])
          rw [← hX] at hs hO
          obtain ⟨OA, OC, rfl, _⟩ := own_slice hO.1
          have hO1 := hO.1
          have hrg := Lib.hid hO.2.2
          have h99 : (X.length + t.length) * 8 ≤ 140737488355328 := by omega
          have hws := hB.size
          clear ht hX hs hO
          go_wp2_with (at_builtin; refine push_all (.tmp 31) (.tmp 32) 38 3 (.int .i64 0) 1 8 rfl rfl Tryd.underlying38 infoInt rfl (by decide) (by decide) w.heap.size _ X.length (icells X) (icells t) rfl hO1 B t.length tc rfl hBn (icells_length _) hI.cells (icells_one _) h99 hws ?_; intro v5 w5 ho5 hg5 ha5)
          have HB5 : Hid (Below w.heap.size w w5) := Lib.hid (hB.grown hg5 hws (fun j hj => (hO1.lt j hj).1))
          have HO5 : Hid (RowO w5 w.heap.size v5 (X ++ t)) := Lib.hid (RowO.pushed (piece := t) ho5 h99 hrg.out hI.1)
          clear ho5 hg5 ha5 hO1
          go_roundg (l.length - (k + 1))
          case measure => have := hg.out; omega
          case rel => exact ⟨k + 1, by have := hg.out; show _ = _; omega, by go_num, HB5.out, by rw [HN.out]; exact HO5.out⟩
        · have hkn : k = l.length := by omega
          subst hkn
          go_wp2_with fail
          go_ret
          exact ⟨_, rfl, hB, by rw [List.take_length] at hO; exact hO⟩
end Go.Proofs.YtfelhlffiiephaaDoor
