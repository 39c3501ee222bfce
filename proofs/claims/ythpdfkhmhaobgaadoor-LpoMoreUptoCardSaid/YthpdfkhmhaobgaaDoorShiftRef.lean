/- A row whose variables' numbers are greater by as much: what it is, and the document's way. Conditions: none. -/
import Derived.Test.YthpdfkhmhaobgaaDoorRow
set_option linter.unusedVariables false
set_option linter.unusedSimpArgs false
namespace Go.Proofs.YthpdfkhmhaobgaaDoor
open Go.RowKit Go.Lib

def shiftOne (q c : Int) : Option Int := if 0 ≤ c then some c else if 0 ≤ -1 - c + q ∧ -1 - c + q < 1048576 then some (-1 - (-1 - c + q)) else none
def shiftOn (q : Int) : List Int → List Int → Option (List Int)
  | acc, [] => some acc
  | acc, c :: t => match shiftOne q c with
    | none => none
    | some d => shiftOn q (acc ++ [d]) t
theorem shift_step {q : Int} {acc t : List Int} {k : Nat} {c d : Int} (hk : k < t.length) (hc : t.getD k 0 = c) (hd : shiftOne q c = some d) : shiftOn q acc (t.drop k) = shiftOn q (acc ++ [d]) (t.drop (k + 1)) := by
  rw [drop_cons t k hk, hc, shiftOn, hd]
theorem shift_stop {q : Int} {acc t : List Int} {k : Nat} {c : Int} (hk : k < t.length) (hc : t.getD k 0 = c) (hd : shiftOne q c = none) : shiftOn q acc (t.drop k) = none := by
  rw [drop_cons t k hk, hc, shiftOn, hd]
theorem shift_end {q : Int} {acc t : List Int} : shiftOn q acc (t.drop t.length) = some acc := by rw [List.drop_length]; rfl
set_option maxRecDepth 100000 in
set_option maxHeartbeats 4000000 in
theorem shift_ref_any (B : Option Addr) (t : List Int) (tc : Nat) (q : Int) (hq0 : -9223372036854775808 ≤ q ∧ q ≤ 9223372036854775807) (w : World) (ht : Ints w B t) (h8 : t.length * 8 ≤ 140737488355328) :
    Calls Tryd.prog 22 #[.slice B t.length tc, .int .i64 q] w fun e w' =>
      ∃ v, e = .returned (.tuple #[v, .int .i64 (if (shiftOn q [] t).isSome then 0 else 40)]) ∧ Below w.heap.size w w' ∧ RowO w' w.heap.size v ((shiftOn q [] t).getD []) := by
  have m2 := ht.2.1
  obtain ⟨qa, qb⟩ := hq0
  generalize hR : shiftOn q [] t = R
  have HR := Lib.hid hR
  clear hR
  generalize hq : (if R.isSome then (0 : Int) else 40) = qq
  have HQ := Lib.hid hq
  clear hq
  obtain ⟨hb, hhb⟩ : ∃ x, x = w.heap.size := ⟨_, rfl⟩
  have hown0 := own_empty w 3 1 hb hhb
  go_enter Tryd.func22, Tryd.ntmps22
  go_wp2_with fail
  rw [← hhb]
  have HHB := Lib.hid hhb
  clear hhb
  go_loopg [6, 7] t.length (fun gk v i wr => ∃ (k : Nat) (acc : List Int), Aside (gk + k = t.length) ∧ i = .int .i64 k ∧ Below hb w wr ∧ RowO wr hb v acc ∧ acc.length = k ∧ Aside (R = shiftOn q acc (t.drop k)))
  case atStart => exact ⟨0, [], (rfl : t.length + 0 = _), rfl, by rw [HHB.out]; exact below_alloc0 _ _, ⟨hown0, by simp, fun x hx => by cases hx⟩, rfl, by rw [List.drop_zero]; exact HR.out.symm⟩
  case round =>
    obtain ⟨k, acc, hg, rfl, hB, hO, ha, hE⟩ := hrel
    have hk : k ≤ t.length := by have := hg.out; omega
    have hHs : hb ≤ wr.heap.size := by have := hB.size; rw [HHB.out]; exact this
    obtain ⟨AO, cO, rfl, hnO⟩ := own_slice hO.1
    have HO := Lib.hid hO
    have hO1 := hO.1
    clear hO
    have HA := Lib.hid ha
    have hal : acc.length ≤ t.length := by omega
    clear ha
    by_cases hlt : k < t.length
    · have ht' := ht.kept (show Below w.heap.size w wr by rw [← HHB.out]; exact hB)
      obtain ⟨b, off, c, rfl, hx, hx1, hx2, hxc⟩ := ht'.at_ hlt
      have HX := Lib.hid hx
      clear hx
      by_cases hneg : 0 ≤ c
      · have HS : Hid (R = shiftOn q (acc ++ [c]) (t.drop (k + 1))) := Lib.hid (hE.out.trans (shift_step hlt HX.out (by unfold shiftOne; rw [if_pos hneg])))
        have hnew := (one_cells (w := wr.alloc (.cells #[.int .i64 (c)] 3)) (b := wr.heap.size) (o := 0) (x := c) (by rw [World.cell?_alloc_new]; rfl))
        have hN2 : hb ≤ (wr.alloc (.cells #[.int .i64 (c)] 3)).heap.size := by simp; omega
        go_wp2_with (at_builtin; refine push_all (.tmp 26) (.tmp 31) 24 3 (.int .i64 0) 1 8 rfl rfl Tryd.underlying24 infoInt rfl (by decide) (by decide) hb _ acc.length (icells acc) (icells [c]) rfl (hO1.alloc _) (some ⟨wr.heap.size, 0, none⟩) 1 1 rfl (fun h => by cases h) (icells_length _) hnew (icells_one _) (by have := HA.out; omega) hN2 ?_; intro v' w3 ho3 hg3 ha3)
        go_roundg (t.length - (k + 1))
        case measure => have := hg.out; omega
        case rel =>
          refine ⟨k + 1, acc ++ [c], by have := hg.out; show _ = _; omega, by go_num, (below_alloc hB hHs _).grown hg3 hN2 (fun j hj => (hO1.lt j hj).1), RowO.pushed ho3 (by have := HA.out; simp only [List.length_cons, List.length_nil]; omega) HO.out.2.2 (fun y hy => by simp at hy; subst hy; exact ⟨hx1, hx2⟩), by have := HA.out; rw [List.length_append]; show acc.length + 1 = k + 1; omega, HS.out⟩
      · by_cases b1 : 1048576 ≤ q
        · have HS : Hid (R = none) := Lib.hid (hE.out.trans (shift_stop hlt HX.out (by unfold shiftOne; rw [if_neg (by omega), if_neg (by omega)])))
          go_wp2_with fail
          go_ret2
          have hr := HS.out
          have hq := HQ.out
          subst hr
          subst hq
          exact ⟨_, rfl, by rw [← HHB.out]; exact hB, RowO.nil _ _⟩
        · by_cases b0 : 0 ≤ q
          · by_cases b2 : 1048576 - q ≤ -1 - c
            · have HS : Hid (R = none) := Lib.hid (hE.out.trans (shift_stop hlt HX.out (by unfold shiftOne; rw [if_neg (by omega), if_neg (by omega)])))
              go_wp2_with fail
              go_ret2
              have hr := HS.out
              have hq := HQ.out
              subst hr
              subst hq
              exact ⟨_, rfl, by rw [← HHB.out]; exact hB, RowO.nil _ _⟩
            · have HS : Hid (R = shiftOn q (acc ++ [-1 - (-1 - c + q)]) (t.drop (k + 1))) := Lib.hid (hE.out.trans (shift_step hlt HX.out (by unfold shiftOne; rw [if_neg (by omega), if_pos (by omega)])))
              have hnew := (one_cells (w := wr.alloc (.cells #[.int .i64 (-1 - (-1 - c + q))] 3)) (b := wr.heap.size) (o := 0) (x := -1 - (-1 - c + q)) (by rw [World.cell?_alloc_new]; rfl))
              have hN2 : hb ≤ (wr.alloc (.cells #[.int .i64 (-1 - (-1 - c + q))] 3)).heap.size := by simp; omega
              go_wp2_with (at_builtin; refine push_all (.tmp 54) (.tmp 57) 24 3 (.int .i64 0) 1 8 rfl rfl Tryd.underlying24 infoInt rfl (by decide) (by decide) hb _ acc.length (icells acc) (icells [-1 - (-1 - c + q)]) rfl (hO1.alloc _) (some ⟨wr.heap.size, 0, none⟩) 1 1 rfl (fun h => by cases h) (icells_length _) hnew (icells_one _) (by have := HA.out; omega) hN2 ?_; intro v' w3 ho3 hg3 ha3)
              go_roundg (t.length - (k + 1))
              case measure => have := hg.out; omega
              case rel =>
                refine ⟨k + 1, acc ++ [-1 - (-1 - c + q)], by have := hg.out; show _ = _; omega, by go_num, (below_alloc hB hHs _).grown hg3 hN2 (fun j hj => (hO1.lt j hj).1), RowO.pushed ho3 (by have := HA.out; simp only [List.length_cons, List.length_nil]; omega) HO.out.2.2 (fun y hy => by simp at hy; subst hy; exact ⟨by omega, by omega⟩), by have := HA.out; rw [List.length_append]; show acc.length + 1 = k + 1; omega, HS.out⟩
          · by_cases b3 : -1 - c + q < 0
            · have HS : Hid (R = none) := Lib.hid (hE.out.trans (shift_stop hlt HX.out (by unfold shiftOne; rw [if_neg (by omega), if_neg (by omega)])))
              go_wp2_with fail
              go_ret2
              have hr := HS.out
              have hq := HQ.out
              subst hr
              subst hq
              exact ⟨_, rfl, by rw [← HHB.out]; exact hB, RowO.nil _ _⟩
            · by_cases b4 : 1048576 ≤ -1 - c + q
              · have HS : Hid (R = none) := Lib.hid (hE.out.trans (shift_stop hlt HX.out (by unfold shiftOne; rw [if_neg (by omega), if_neg (by omega)])))
                go_wp2_with fail
                go_ret2
                have hr := HS.out
                have hq := HQ.out
                subst hr
                subst hq
                exact ⟨_, rfl, by rw [← HHB.out]; exact hB, RowO.nil _ _⟩
              · have HS : Hid (R = shiftOn q (acc ++ [-1 - (-1 - c + q)]) (t.drop (k + 1))) := Lib.hid (hE.out.trans (shift_step hlt HX.out (by unfold shiftOne; rw [if_neg (by omega), if_pos (by omega)])))
                have hnew := (one_cells (w := wr.alloc (.cells #[.int .i64 (-1 - (-1 - c + q))] 3)) (b := wr.heap.size) (o := 0) (x := -1 - (-1 - c + q)) (by rw [World.cell?_alloc_new]; rfl))
                have hN2 : hb ≤ (wr.alloc (.cells #[.int .i64 (-1 - (-1 - c + q))] 3)).heap.size := by simp; omega
                go_wp2_with (at_builtin; refine push_all (.tmp 54) (.tmp 57) 24 3 (.int .i64 0) 1 8 rfl rfl Tryd.underlying24 infoInt rfl (by decide) (by decide) hb _ acc.length (icells acc) (icells [-1 - (-1 - c + q)]) rfl (hO1.alloc _) (some ⟨wr.heap.size, 0, none⟩) 1 1 rfl (fun h => by cases h) (icells_length _) hnew (icells_one _) (by have := HA.out; omega) hN2 ?_; intro v' w3 ho3 hg3 ha3)
                go_roundg (t.length - (k + 1))
                case measure => have := hg.out; omega
                case rel =>
                  refine ⟨k + 1, acc ++ [-1 - (-1 - c + q)], by have := hg.out; show _ = _; omega, by go_num, (below_alloc hB hHs _).grown hg3 hN2 (fun j hj => (hO1.lt j hj).1), RowO.pushed ho3 (by have := HA.out; simp only [List.length_cons, List.length_nil]; omega) HO.out.2.2 (fun y hy => by simp at hy; subst hy; exact ⟨by omega, by omega⟩), by have := HA.out; rw [List.length_append]; show acc.length + 1 = k + 1; omega, HS.out⟩
    · have hkn : k = t.length := by omega
      subst hkn
      go_wp2_with fail
      go_ret2
      have hr := hE.out.trans shift_end
      have hq := HQ.out
      subst hr
      subst hq
      exact ⟨_, rfl, by rw [← HHB.out]; exact hB, by rw [← HHB.out]; exact HO.out⟩
end Go.Proofs.YthpdfkhmhaobgaaDoor
