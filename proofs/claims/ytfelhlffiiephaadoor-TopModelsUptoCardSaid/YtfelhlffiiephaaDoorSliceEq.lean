/- slices.Equal at rows of numbers. Conditions: none. -/
import Derived.Test.YtfelhlffiiephaaDoorRow
import Derived.Deep.RegionLaw
import Derived.Deep.LoopGhost
set_option linter.unusedVariables false
set_option linter.unusedSimpArgs false
set_option linter.unnecessarySimpa false
namespace Go.Proofs.YtfelhlffiiephaaDoor
open Go.RowKit Go.Lib

set_option maxRecDepth 100000 in
theorem equal_any (A B : Option Addr) (t u : List Int) (c d : Nat) (w : World) (ht : Ints w A t) (hu : Ints w B u) :
    Calls Tryd.prog 24 #[.slice A t.length c, .slice B u.length d] w fun e w' => e = .returned (.bool (decide (t = u))) ∧ Below w.heap.size w w' := by
  have m1 := ht.2.1
  have m2 := hu.2.1
  by_cases hlen : t.length = u.length
  · have hlen' := Lib.hid hlen
    obtain ⟨n, hn⟩ : ∃ n, n = t.length := ⟨_, rfl⟩
    have hn2 : u.length = n := by omega
    rw [hn2, ← hn]
    have HN := Lib.hid hn
    have HN2 := Lib.hid hn2
    rw [← hn] at m1
    clear hlen hn hn2 m2
    go_enter Tryd.func24, Tryd.ntmps24
    go_wp2_with fail
    go_loopg [13] n (fun gk i wr => ∃ k : Nat, Aside (gk + k = n) ∧ i = .int .i64 k ∧ Below w.heap.size w wr ∧ Aside (∀ j, j < k → t.getD j 0 = u.getD j 0))
    case atStart => exact ⟨0, (rfl : n + 0 = n), rfl, Below.refl _ _, fun j hj => by omega⟩
    case round =>
      obtain ⟨k, hg, rfl, hB, hE⟩ := hrel
      have hk : k ≤ n := by have := hg.out; omega
      have HE := Lib.hid hE.out
      clear hE
      by_cases hlt : k < n
      · have ht' := ht.kept hB
        have hu' := hu.kept hB
        obtain ⟨b, off, x, rfl, hx, hx1, hx2, hxc⟩ := ht'.at_ (show k < t.length by have := HN.out; omega)
        obtain ⟨b2, off2, y, rfl, hy, hy1, hy2, hyc⟩ := hu'.at_ (show k < u.length by have := HN2.out; omega)
        have HX := Lib.hid hx
        have HY := Lib.hid hy
        clear hx hy
        by_cases hq : x = y
        · have hq1 : (x == y) = true := beq_iff_eq.2 hq
          have hq2 : (x != y) = false := by simp [hq]
          have HQ := Lib.hid hq
          clear hq
          go_wp2_with fail
          go_quiet (fail)
          go_wp2_with fail
          go_roundg (n - (k + 1))
          case measure => have := hg.out; omega
          case rel =>
            refine ⟨k + 1, by have := hg.out; show _ = _; omega, by go_num, below_drawN hB _, fun j hj => ?_⟩
            by_cases e : j = k
            · subst e; rw [HX.out, HY.out]; exact HQ.out
            · exact HE.out j (by omega)
        · have hq1 : (x == y) = false := beq_eq_false_iff_ne.2 hq
          have hq2 : (x != y) = true := bne_iff_ne.2 hq
          have HQ := Lib.hid hq
          clear hq
          go_wp2_with fail
          go_quiet (fail)
          go_wp2_with fail
          go_ret
          refine ⟨?_, below_drawN hB _⟩
          rw [decide_eq_false (fun e => HQ.out (by rw [← HX.out, ← HY.out, e]))]; rfl
      · have hkn : k = n := by omega
        subst hkn
        go_wp2_with fail
        go_ret
        refine ⟨?_, hB⟩
        rw [decide_eq_true (rows_eq t u hlen'.out (fun j hj => HE.out j (by have := HN.out; omega)))]; rfl
  · have hq1 : ((t.length : Int) == (u.length : Int)) = false := beq_eq_false_iff_ne.2 (by omega)
    have hq2 : ((t.length : Int) != (u.length : Int)) = true := bne_iff_ne.2 (by omega)
    have hne : t ≠ u := fun e => hlen (by rw [e])
    rw [decide_eq_false hne]
    clear hne hlen
    go_enter Tryd.func24, Tryd.ntmps24
    go_wp2_with fail
    go_ret
    exact ⟨rfl, Below.refl _ _⟩
end Go.Proofs.YtfelhlffiiephaaDoor
