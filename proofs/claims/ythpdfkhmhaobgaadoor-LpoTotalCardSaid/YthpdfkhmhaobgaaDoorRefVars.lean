/- The document's way to the variables of a row. Conditions: none. -/
import Derived.Test.YthpdfkhmhaobgaaDoorMet
set_option linter.unusedVariables false
set_option linter.unusedSimpArgs false
namespace Go.Proofs.YthpdfkhmhaobgaaDoor
open Go.RowKit Go.Lib

/-- Whether a code is among the first few of those that are met. -/
def metTo (met : List Int) (x : Int) (k : Nat) : Bool := decide (0 ≤ x) || decide (x ∈ met.take k)
theorem metTo_step {met : List Int} {x : Int} {k : Nat} (hk : k < met.length) : metTo met x (k + 1) = (metTo met x k || decide (met.getD k 0 = x)) := by
  unfold metTo
  rw [take_succ' met 0 hk]
  by_cases h0 : 0 ≤ x
  · simp [h0]
  · by_cases h1 : x ∈ met.take k
    · simp [h0, h1]
    · simp only [h0, decide_false, Bool.false_or, List.mem_append, List.mem_singleton, h1, false_or]
      by_cases h2 : x = met.getD k 0
      · rw [decide_eq_true h2, decide_eq_true h2.symm]
      · rw [decide_eq_false h2, decide_eq_false (fun e => h2 e.symm)]
set_option maxRecDepth 100000 in
set_option maxHeartbeats 2000000 in
theorem refvars_any (B : Option Addr) (t : List Int) (tc : Nat) (w : World) (ht : Ints w B t) (h8 : t.length * 8 ≤ 140737488355328) :
    Calls Tryd.prog 20 #[.slice B t.length tc] w fun e w' => ∃ v, e = .returned v ∧ Below w.heap.size w w' ∧ RowO w' w.heap.size v (varsOf t) := by
  have m2 := ht.2.1
  unfold varsOf
  generalize hR : metVars [] t = R
  have HR := Lib.hid hR
  clear hR
  go_enter Tryd.func20, Tryd.ntmps20
  go_wp2_with fail
  go_loopg [3, 4] t.length (fun gk V i wr => ∃ (k : Nat) (met : List Int), Aside (gk + k = t.length) ∧ i = .int .i64 k ∧ Below w.heap.size w wr ∧ RowO wr w.heap.size V (met.map fun c => -1 - c) ∧ met.length ≤ k ∧ Aside (R = metVars met (t.drop k)))
  case atStart => exact ⟨0, [], (rfl : t.length + 0 = _), rfl, Below.refl _ _, RowO.nil _ _, Nat.le_refl _, by rw [List.drop_zero]; exact HR.out.symm⟩
  case round =>
    clear HR
    obtain ⟨k, met, hg, rfl, hB, hO, hml, hE⟩ := hrel
    have hk : k ≤ t.length := by have := hg.out; omega
    obtain ⟨OA, OC, hu, hIm⟩ := hO.ints
    rw [show (met.map fun c => -1 - c).length = met.length by simp] at hu
    subst hu
    by_cases hlt : k < t.length
    · obtain ⟨b, off, x, rfl, hx, hx1, hx2, hxc⟩ := (ht.kept hB).at_ hlt
      have HE : Hid (R = metVars (if x < 0 then meet met x else met) (t.drop (k + 1))) := Lib.hid (hE.out.trans (metVars_step hlt hx))
      clear hE hx
      have hwr : w.heap.size ≤ wr.heap.size := hB.size
      have HO := Lib.hid hO
      have HIm := Lib.hid hIm
      clear hO hIm
      go_wp2_with fail
      obtain ⟨gx, hgx⟩ : ∃ g, g = decide (0 ≤ x) := ⟨_, rfl⟩
      go_loopg [5, 6] met.length (fun gj iv jv wx => ∃ (j : Nat), Aside (gj + j = met.length) ∧ jv = .int .i64 j ∧ iv = .bool (metTo met x j) ∧ Below wr.heap.size wr wx ∧ j ≤ met.length)
      case atStart => exact ⟨0, (rfl : met.length + 0 = _), by go_num, by simp [metTo], Below.refl _ _, Nat.zero_le _⟩
      case round =>
        obtain ⟨j, hgj, rfl, rfl, hBj, hj⟩ := hrel
        by_cases hjl : j < met.length
        · have hIj := HIm.out.kept hBj
          obtain ⟨b2, off2, y, rfl, hy, hy1, hy2, hyc⟩ := hIj.at_ (k := j) (by rw [List.length_map]; exact hjl)
          have hxc2 := cell_kept hBj hxc
          have hyv : y = -1 - met.getD j 0 := by
            rw [← hy]; simp [List.getD_eq_getElem?_getD, List.getElem?_map, List.getElem?_eq_getElem hjl]
          have hst := metTo_step (met := met) (x := x) hjl
          have hq : (y == -1 - x) = decide (met.getD j 0 = x) := by
            by_cases h : met.getD j 0 = x
            · rw [decide_eq_true h, beq_iff_eq]; omega
            · rw [decide_eq_false h, beq_eq_false_iff_ne]; omega
          rw [← hq] at hst
          have HST := Lib.hid hst
          clear hy hyv hst hq hIj
          generalize metTo met x j = mm at HST ⊢
          cases mm with
          | true =>
            go_wp2_with fail
            go_quiet (fail)
            go_wp2_with fail
            go_roundg (met.length - (j + 1))
            case measure => have := hgj.out; omega
            case rel => exact ⟨j + 1, by have := hgj.out; show _ = _; omega, by go_num, by rw [HST.out]; rfl, below_drawN hBj _, by omega⟩
          | false =>
            by_cases hyx : y = -1 - x
            · have hq1 : (y == -1 - x) = true := beq_iff_eq.2 hyx
              have HQ := Lib.hid hq1
              have hyx1 : -9223372036854775808 ≤ -1 - x ∧ -1 - x ≤ 9223372036854775807 := by omega
              clear hyx
              go_wp2_with fail
              go_quiet (fail)
              go_wp2_with fail
              go_roundg (met.length - (j + 1))
              case measure => have := hgj.out; omega
              case rel => exact ⟨j + 1, by have := hgj.out; show _ = _; omega, by go_num, by rw [HST.out, HQ.out]; rfl, below_drawN hBj _, by omega⟩
            · have hq1 : (y == -1 - x) = false := beq_eq_false_iff_ne.2 hyx
              have HQ := Lib.hid hq1
              have hyx1 : -9223372036854775808 ≤ -1 - x ∧ -1 - x ≤ 9223372036854775807 := by omega
              clear hyx
              go_wp2_with fail
              go_quiet (fail)
              go_wp2_with fail
              go_roundg (met.length - (j + 1))
              case measure => have := hgj.out; omega
              case rel => exact ⟨j + 1, by have := hgj.out; show _ = _; omega, by go_num, by rw [HST.out, HQ.out]; rfl, below_drawN hBj _, by omega⟩
        · have hje : j = met.length := by omega
          subst hje
          have hmt : metTo met x met.length = (decide (0 ≤ x) || decide (x ∈ met)) := by unfold metTo; rw [List.take_length]
          rw [hmt]
          have hBr := below_then hB hwr hBj
          have hxc2 := cell_kept hBj hxc
          have HO2 : Hid (RowO wr w.heap.size (.slice OA met.length OC) (met.map fun c => -1 - c)) := Lib.hid (HO.out.below hBj)
          clear hmt HIm
          by_cases hin : 0 ≤ x ∨ x ∈ met
          · have hb : (decide (0 ≤ x) || decide (x ∈ met)) = true := by rcases hin with h | h <;> simp [h]
            rw [hb]
            have HN : Hid (R = metVars met (t.drop (k + 1))) := Lib.hid (by
              rw [HE.out]
              by_cases h0 : x < 0
              · rw [if_pos h0, meet_in (hin.resolve_left (by omega))]
              · rw [if_neg h0])
            clear hin hb HE
            go_wp2_with fail
            go_roundg (t.length - (k + 1))
            case measure => have := hg.out; omega
            case rel => exact ⟨k + 1, met, by have := hg.out; show _ = _; omega, by go_num, hBr, HO2.out, by omega, HN.out⟩
          · have hx0 : x < 0 := by omega
            have hxm : x ∉ met := fun h => hin (.inr h)
            have hb : (decide (0 ≤ x) || decide (x ∈ met)) = false := by simp [hxm]; omega
            rw [hb]
            have HN : Hid (R = metVars (met ++ [x]) (t.drop (k + 1))) := Lib.hid (by rw [HE.out, if_pos hx0]; unfold meet; rw [if_neg hxm])
            have hO1 := HO2.out.1
            have hmap : (met.map fun c => -1 - c).length = met.length := by simp
            rw [hmap] at hO1
            have hrg := Lib.hid HO2.out.2.2
            have h99 : (met.length + 1) * 8 ≤ 140737488355328 := by omega
            have hwx := hBr.size
            clear hin hb HE hxm hmap HO2
            go_wp2_with (at_builtin; refine push_all (.tmp 39) (.tmp 45) 24 3 (.int .i64 0) 1 8 rfl rfl Tryd.underlying24 infoInt rfl (by decide) (by decide) w.heap.size _ met.length (icells (met.map fun c => -1 - c)) (icells [-1 - x]) rfl (hO1.alloc _) _ 1 1 rfl (fun h => by cases h) (icells_length _) (fun _ => ⟨_, 0, rfl, var_cells _ _ _ _ rfl⟩) (icells_one _) h99 (by simp; omega) ?_; intro v5 w5 ho5 hg5 ha5)
            have HB5 : Hid (Below w.heap.size w w5) := Lib.hid ((below_alloc hBr hwx _).grown hg5 (by simp; omega) (fun j hj => (hO1.lt j hj).1))
            have HO5 : Hid (RowO w5 w.heap.size v5 ((met ++ [x]).map fun c => -1 - c)) := Lib.hid ⟨by rw [List.length_map, List.length_append, icells_neg]; exact ho5, by rw [List.length_map, List.length_append]; exact h99, fun y hy => by
              obtain ⟨c, hc, rfl⟩ := List.mem_map.1 hy
              rcases List.mem_append.1 hc with hc | hc
              · exact hrg.out _ (List.mem_map_of_mem hc)
              · simp at hc; subst hc; exact ⟨by omega, by omega⟩⟩
            clear ho5 hg5 ha5 hO1
            go_roundg (t.length - (k + 1))
            case measure => have := hg.out; omega
            case rel => exact ⟨k + 1, met ++ [x], by have := hg.out; show _ = _; omega, by go_num, HB5.out, HO5.out, by rw [List.length_append]; show met.length + 1 ≤ k + 1; omega, HN.out⟩
    · have hkn : k = t.length := by omega
      subst hkn
      go_wp2_with fail
      go_ret
      have hr := hE.out.trans metVars_end
      subst hr
      exact ⟨_, rfl, hB, hO⟩
end Go.Proofs.YthpdfkhmhaobgaaDoor
