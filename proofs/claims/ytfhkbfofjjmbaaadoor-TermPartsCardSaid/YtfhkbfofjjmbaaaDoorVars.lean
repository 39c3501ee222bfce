/- The variables of a row, as they are met, and the walk of the program's way to tell them. Conditions: none. -/
import Derived.Test.YtfhkbfofjjmbaaaDoorMaps
import Derived.Test.YtfhkbfofjjmbaaaDoorMet
set_option linter.unusedVariables false
set_option linter.unusedSimpArgs false
namespace Go.Proofs.YtfhkbfofjjmbaaaDoor
open Go.RowKit Go.Lib

theorem run_make_ints (w : World) : (Instr.makeMap 52 none).run Tryd.prog w = .ok (.map (some w.heap.size)) (w.alloc (.map #[] 0)) := rfl
set_option maxRecDepth 100000 in
set_option maxHeartbeats 2000000 in
theorem vars_any (B : Option Addr) (t : List Int) (tc : Nat) (w : World) (ht : Ints w B t) (h8 : t.length * 8 ≤ 140737488355328) :
    Calls Tryd.prog 16 #[.slice B t.length tc] w fun e w' => ∃ v, e = .returned v ∧ Below w.heap.size w w' ∧ RowO w' w.heap.size v (varsOf t) := by
  have m2 := ht.2.1
  have hmk := run_make_ints
  unfold varsOf
  generalize hR : metVars [] t = R
  have HR := Lib.hid hR
  clear hR
  go_enter Tryd.func16, Tryd.ntmps16
  go_wp2_with fail
  obtain ⟨mb, hmb⟩ : ∃ x, x = w.heap.size := ⟨_, rfl⟩
  obtain ⟨w0, hw0⟩ : ∃ x, x = w.alloc (.map #[] 0) := ⟨_, rfl⟩
  have h0 : Below mb w w0 := by rw [hw0, hmb]; exact below_alloc0 _ _
  have h1 : MapIs w0 mb 0 (fun _ => none) := by rw [hw0, hmb]; exact MapIs.made w
  rw [← hw0, ← hmb]
  have HMB := Lib.hid hmb
  clear hw0 hmb hmk
  go_loopg [4, 12] t.length (fun gk V i wr => ∃ (k : Nat) (met : List Int) (f : Int → Option Value), Aside (gk + k = t.length) ∧ i = .int .i64 k ∧ Below mb w wr ∧ MapIs wr mb met.length f ∧ Aside (∀ c, i64ok c → (f c).isSome = decide (c ∈ met)) ∧
    RowO wr (mb + 1) V (met.map fun c => -1 - c) ∧ Aside (met.length ≤ k) ∧ Aside (R = metVars met (t.drop k)))
  case atStart => exact ⟨0, [], _, (rfl : t.length + 0 = _), rfl, h0, h1, (fun c _ => by simp), RowO.nil _ _, Nat.le_refl _, by rw [List.drop_zero]; exact HR.out.symm⟩
  case round =>
    clear h0 h1
    obtain ⟨k, met, f, hg, rfl, hB, hM, hf, hO, hml, hE⟩ := hrel
    have hk : k ≤ t.length := by have := hg.out; omega
    have hmbl := hM.lt
    obtain ⟨OA, OC, hu, _⟩ := own_slice hO.1
    rw [show (met.map fun c => -1 - c).length = met.length by simp] at hu
    subst hu
    have HF := Lib.hid hf.out
    have HML := Lib.hid hml.out
    clear hf hml
    by_cases hlt : k < t.length
    · have hB' : Below w.heap.size w wr := by rw [← HMB.out]; exact hB
      obtain ⟨b, off, x, rfl, hx, hx1, hx2, hxc⟩ := (ht.kept hB').at_ hlt
      have HE : Hid (R = metVars (if x < 0 then meet met x else met) (t.drop (k + 1))) := Lib.hid (hE.out.trans (metVars_step hlt hx))
      clear hE hx
      have hlk := hM.look Tryd.underlying52 (zeroInt wr) ⟨hx1, hx2⟩
      have hsome := HF.out x ⟨hx1, hx2⟩
      rw [hsome] at hlk
      generalize (f x).getD (.int .i64 0) = z at hlk
      by_cases hneg : x < 0
      · by_cases hin : x ∈ met
        · have hd : decide (x ∈ met) = true := decide_eq_true hin
          rw [hd] at hlk
          have HIN := Lib.hid hin
          clear hin hd hsome
          go_wp2_with fail
          go_roundg (t.length - (k + 1))
          case measure => have := hg.out; omega
          case rel => exact ⟨k + 1, met, f, by have := hg.out; show _ = _; omega, by go_num, hB, hM, HF.out, hO, by have := HML.out; show _ ≤ _; omega, HE.out.trans (by rw [if_pos hneg, meet_in HIN.out])⟩
        · have hd : decide (x ∈ met) = false := decide_eq_false hin
          rw [hd] at hlk
          have HIN := Lib.hid hin
          have HS := Lib.hid (hsome.trans hd)
          have hmap : (met.map fun c => -1 - c).length = met.length := by simp
          have hO1 := hO.1
          rw [hmap] at hO1
          have h99 : (met.length + 1) * 8 ≤ 140737488355328 := by have := HML.out; omega
          have hrg := Lib.hid hO.2.2
          have hmlt : met.length < 9223372036854775807 := by have := HML.out; omega
          clear hin hd hsome hmap hO
          go_wp2_with (first
            | (at_mapUpdate; refine wpList_put rfl _ _ _ 52 3 rfl Tryd.underlying52 mb met.length f rfl hM hmlt x (.int .i64 k) rfl rfl ⟨hx1, hx2⟩ ?_; intro w4 hm4 hg4; have hO4 := hO1.kept hg4 (.inr fun e => by have := (hO1.lt mb e).1; omega); have hs4 := hg4.size)
            | (at_builtin; refine push_all (.tmp 32) (.tmp 35) 27 3 (.int .i64 0) 1 8 rfl rfl Tryd.underlying27 infoInt rfl (by decide) (by decide) (mb + 1) _ met.length (icells (met.map fun c => -1 - c)) (icells [-1 - x]) rfl (hO4.alloc _) _ 1 1 rfl (fun h => by cases h) (icells_length _) (fun _ => ⟨_, 0, rfl, var_cells _ _ _ _ rfl⟩) (icells_one _) h99 (by simp; omega) ?_; intro v5 w5 ho5 hg5 ha5))
          have hB4 : Below mb w w4 := hB.grown hg4 (Nat.le_of_lt hmbl) (fun j hj => by cases hj; exact Nat.le_refl _)
          have hm5 := (hm4.below (below_alloc0 _ _)).kept hg5 (fun e => by have := (hO1.lt mb e.symm).1; omega)
          have hB5 : Below mb w w5 := (below_alloc hB4 (by omega) _).grown hg5 (by simp; omega) (fun j hj => by have := (hO1.lt j hj).1; omega)
          have hlen : (met ++ [x]).length = met.length + 1 := by simp
          have HO5 : Hid (RowO w5 (mb + 1) v5 ((met ++ [x]).map fun c => -1 - c)) := Lib.hid ⟨by rw [List.length_map, hlen, icells_neg]; exact ho5, by rw [List.length_map, hlen]; exact h99, fun y hy => by
            obtain ⟨c, hc, rfl⟩ := List.mem_map.1 hy
            rcases List.mem_append.1 hc with hc | hc
            · exact hrg.out _ (List.mem_map_of_mem hc)
            · simp at hc; subst hc; exact ⟨by omega, by omega⟩⟩
          have HM5 : Hid (MapIs w5 mb (met ++ [x]).length _) := Lib.hid (by rw [hlen]; rw [HS.out] at hm5; exact hm5)
          have HB5 := Lib.hid hB5
          clear hlen hm4 hg4 ho5 hg5 ha5 hm5 hB5 hB4 hO4 hO1
          go_roundg (t.length - (k + 1))
          case measure => have := hg.out; omega
          case rel =>
            refine ⟨k + 1, met ++ [x], _, by have := hg.out; show _ = _; omega, by go_num, HB5.out, HM5.out, (fun c hc => ?_), HO5.out, by have := HML.out; rw [List.length_append]; show met.length + 1 ≤ k + 1; omega, HE.out.trans (by rw [if_pos hneg, show meet met x = met ++ [x] from if_neg HIN.out])⟩
            by_cases e : c = x
            · subst e; simp
            · simp only [if_neg e, HF.out c hc]
              simp [e]
      · go_wp2_with fail
        go_roundg (t.length - (k + 1))
        case measure => have := hg.out; omega
        case rel => exact ⟨k + 1, met, f, by have := hg.out; show _ = _; omega, by go_num, hB, hM, HF.out, hO, by have := HML.out; show _ ≤ _; omega, HE.out.trans (by rw [if_neg (by omega)])⟩
    · have hkn : k = t.length := by omega
      subst hkn
      go_wp2_with fail
      go_ret
      have hr := hE.out.trans metVars_end
      subst hr
      exact ⟨_, rfl, by rw [← HMB.out]; exact hB, by rw [← HMB.out]; exact RowO.base (a := mb) hO (by omega)⟩
end Go.Proofs.YtfhkbfofjjmbaaaDoor
