/- Two lists of the same rows are the same. Conditions: none. -/
import Derived.Test.YtldnokeejinebaaDoorMore
set_option linter.unusedVariables false
set_option linter.unusedSimpArgs false
namespace Go.Proofs.YtldnokeejinebaaDoor
open Go.RowKit Go.Lib

set_option maxRecDepth 100000 in
set_option maxHeartbeats 1000000 in
theorem sameAll_self (A B : Option Addr) (a : List (List Int)) (c d : Nat) (w : World) (ha : RowsIn w A a) (hb : RowsIn w B a) :
    Calls Tryd.prog 22 #[.slice A a.length c, .slice B a.length d] w fun e w' => e = .returned (.bool true) ∧ Below w.heap.size w w' := by
  have m1 := ha.1
  have hq1 : ((a.length : Int) == (a.length : Int)) = true := beq_self_eq_true _
  go_enter Tryd.func22, Tryd.ntmps22
  go_wp2_with fail
  go_loopg [5] a.length (fun gk i wr => ∃ k : Nat, Aside (gk + k = a.length) ∧ i = .int .i64 k ∧ Below w.heap.size w wr)
  case atStart => exact ⟨0, (rfl : a.length + 0 = _), rfl, Below.refl _ _⟩
  case round =>
    obtain ⟨k, hg, rfl, hB⟩ := hrel
    have hk : k ≤ a.length := by have := hg.out; omega
    by_cases hlt : k < a.length
    · have hws : w.heap.size ≤ wr.heap.size := hB.size
      obtain ⟨b1, off1, t, A1, c1, rfl, hx, hxt, _, _, _, hti⟩ := (ha.kept hB).at_ hlt
      obtain ⟨b2, off2, u, B2, d2, rfl, hy, hyu, _, _, _, hui⟩ := (hb.kept hB).at_ hlt
      have e := hx.symm.trans hy
      subst e
      clear hx hy
      go_wp2_with fail
      refine wp_region_ext (I := Over wr) (by kernel_rfl) (by kernel_rfl) (Over.refl wr) ?_
      have f1 := Over.cell hxt
      have f2 := Over.cell hyu
      repeat (go_big_quiet_step ((go_at_call 17; exact Calls.over (same_self _ _ t _ _ _ (hti.kept (Ext.ok _)) (hui.kept (Ext.ok _))))))
      try refine wpQuiet_nil ?_
      intro w' hw'
      have hB' := below_then hB hws hw'
      clear f1 f2 hxt hyu
      go_wp2_with fail
      go_roundg (a.length - (k + 1))
      case measure => have := hg.out; omega
      case rel => exact ⟨k + 1, by have := hg.out; show _ = _; omega, by go_num, hB'⟩
    · have hkn : k = a.length := by omega
      subst hkn
      go_wp2_with fail
      go_ret
      exact ⟨rfl, hB⟩
end Go.Proofs.YtldnokeejinebaaDoor
