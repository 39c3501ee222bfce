/- The document's way to the places above a place, and to the variables of a row. Conditions: none. -/
import Derived.Test.YtfhkbfofjjmbaaaDoorRefPl
set_option linter.unusedVariables false
set_option linter.unusedSimpArgs false
namespace Go.Proofs.YtfhkbfofjjmbaaaDoor
open Go.RowKit Go.Lib

/-- The places above a place, of those before another one. -/
def aboveTo (l : List Sy) (t : List Int) (a i : Nat) : List Int := ((List.range i).filter fun i => decide (a < endOf l t i)).map Int.ofNat
theorem aboveTo_step {l : List Sy} {t : List Int} {a i : Nat} : aboveTo l t a (i + 1) = aboveTo l t a i ++ if a < endOf l t i then [(i : Int)] else [] := by
  unfold aboveTo
  rw [List.range_succ, List.filter_append, List.map_append]
  by_cases h : a < endOf l t i <;> simp [h]
theorem aboveTo_len (l : List Sy) (t : List Int) (a i : Nat) : (aboveTo l t a i).length ≤ i := by
  unfold aboveTo
  rw [List.length_map]
  exact Nat.le_trans (List.length_filter_le _ _) (by simp)
set_option maxRecDepth 100000 in
set_option maxHeartbeats 2000000 in
theorem refabove_any (A B : Option Addr) (l : List Sy) (t : List Int) (sc tc : Nat) (a : Int) (ha : -9223372036854775808 ≤ a ∧ a ≤ 9223372036854775807) (w : World) (hl : Sigs w A l) (ht : Ints w B t) (h8 : t.length * 8 ≤ 140737488355328) :
    Calls Tryd.prog 26 #[.slice A l.length sc, .slice B t.length tc, .int .i64 a] w fun e w' => ∃ v, e = .returned (.tuple #[v, .int .i64 (placeErr l t a)]) ∧ Below w.heap.size w w' ∧ RowO w' w.heap.size v (if placeErr l t a = 0 then aboveOf l t a.toNat else []) := by
  have m2 := ht.2.1
  have cP := place_any A B l t sc tc a ha w hl ht
  have hz := place_zero (l := l) (t := t) (a := a)
  generalize placeErr l t a = er at cP hz ⊢
  by_cases h0 : er = 0
  · subst h0
    obtain ⟨hte, h1, h2⟩ := hz rfl
    have hG := good_of (term_sig hte)
    obtain ⟨p, rfl⟩ := Int.eq_ofNat_of_zero_le h1
    have hp : p < t.length := by omega
    have hIn : ∀ i, i < t.length → scanAt l t 1 i = .ok (endOf l t i) ∧ endOf l t i ≤ t.length := fun i hi => by
      obtain ⟨E, hE, hE2, _⟩ := scan_inside t.length 1 0 t.length (by omega) (root_ok hte) i (Nat.zero_le _) hi
      rw [endOf_ok hE]; exact ⟨hE, hE2⟩
    rw [Int.toNat_natCast, if_pos rfl]
    show Calls _ _ _ _ fun e w' => ∃ v, e = _ ∧ Below _ _ _ ∧ RowO _ _ v (aboveTo l t p p)
    clear hz h1 h2 hte
    go_enter Tryd.func26, Tryd.ntmps26
    go_wp2_with fail
    refine cP.mono ?_
    rintro e w1 ⟨rfl, hb1⟩
    have hl1 := hl.kept hb1
    have ht1 := ht.kept hb1
    clear hl ht cP
    go_wp2_with fail
    go_loopg [9, 10] p (fun gq V iv wx => ∃ (i : Nat) (acc : List Int), Aside (gq + i = p) ∧ iv = .int .i64 i ∧ Below w1.heap.size w1 wx ∧ RowO wx w1.heap.size V acc ∧ Aside (acc = aboveTo l t p i))
    case atStart => exact ⟨0, [], (rfl : p + 0 = _), rfl, Below.refl _ _, RowO.nil _ _, rfl⟩
    case round =>
      obtain ⟨i, acc, hgq, rfl, hB, hO, hacc⟩ := hrel
      have hi : i ≤ p := by have := hgq.out; omega
      have hal : acc.length ≤ i := by rw [hacc.out]; exact aboveTo_len l t p i
      have HA := Lib.hid hacc.out
      clear hacc
      by_cases hlt : i < p
      · obtain ⟨hs, hel⟩ := hIn i (by omega)
        have cE := end_any A B l t sc tc i _ hs wr hG (hl1.kept hB) (ht1.kept hB)
        have hst : Hid (aboveTo l t p (i + 1) = acc ++ if p < endOf l t i then [(i : Int)] else []) := Lib.hid (by rw [aboveTo_step, HA.out])
        clear hs
        generalize endOf l t i = E at cE hst hel
        clear HA
        have hO1 := hO.1
        obtain ⟨OA, OC, rfl, _⟩ := own_slice hO1
        have hw1 : w1.heap.size ≤ wr.heap.size := hB.size
        have h99 : (acc.length + 1) * 8 ≤ 140737488355328 := by omega
        by_cases hgt : p < E
        · have HS : Hid (aboveTo l t p (i + 1) = acc ++ [(i : Int)]) := Lib.hid (by rw [hst.out, if_pos hgt])
          have hrg := Lib.hid hO.2.2
          clear hst hO
          go_wp2_with (first
            | (go_at_call 41; refine cE.mono ?_; rintro e' w' ⟨rfl, rfl⟩)
            | (at_builtin; refine push_all (.tmp 29) (.tmp 31) 27 3 (.int .i64 0) 1 8 rfl rfl Tryd.underlying27 infoInt rfl (by decide) (by decide) w1.heap.size _ acc.length (icells acc) (icells [(i : Int)]) rfl (hO1.alloc _) _ 1 1 rfl (fun h => by cases h) (icells_length _) (fun _ => ⟨_, 0, rfl, var_cells _ _ _ _ rfl⟩) (icells_one _) h99 (by simp; omega) ?_; intro v5 w5 ho5 hg5 ha5))
          have HB5 : Hid (Below w1.heap.size w1 w5) := Lib.hid ((below_alloc hB hw1 _).grown hg5 (by simp; omega) (fun j hj => (hO1.lt j hj).1))
          have HO5 : Hid (RowO w5 w1.heap.size v5 (acc ++ [(i : Int)])) := Lib.hid (RowO.pushed (piece := [(i : Int)]) ho5 (by simp only [List.length_cons, List.length_nil]; omega) hrg.out (fun y hy => by simp at hy; subst hy; exact ⟨by omega, by omega⟩))
          clear ho5 hg5 ha5 hO1
          go_roundg (p - (i + 1))
          case measure => have := hgq.out; omega
          case rel => exact ⟨i + 1, acc ++ [(i : Int)], by have := hgq.out; show _ = _; omega, by go_num, HB5.out, HO5.out, HS.out.symm⟩
        · have HS : Hid (aboveTo l t p (i + 1) = acc) := Lib.hid (by rw [hst.out, if_neg hgt, List.append_nil])
          clear hst
          go_wp2_with (go_at_call 41; refine cE.mono ?_; rintro e' w' ⟨rfl, rfl⟩)
          go_roundg (p - (i + 1))
          case measure => have := hgq.out; omega
          case rel => exact ⟨i + 1, acc, by have := hgq.out; show _ = _; omega, by go_num, hB, hO, HS.out.symm⟩
      · have hie : i = p := by omega
        subst hie
        go_wp2_with fail
        go_ret2
        exact ⟨_, rfl, below_then hb1 hb1.size hB, by rw [← HA.out]; exact hO.base hb1.size⟩
  · have hq1 : (er == 0) = false := beq_eq_false_iff_ne.2 h0
    have hq2 : (er != 0) = true := bne_iff_ne.2 h0
    rw [if_neg h0]
    clear hz h0
    go_enter Tryd.func26, Tryd.ntmps26
    go_wp2_with fail
    refine cP.mono ?_
    rintro e w1 ⟨rfl, hb1⟩
    go_wp2_with fail
    go_ret2
    exact ⟨_, rfl, hb1, RowO.nil _ _⟩

theorem metVars_neg : ∀ (t met : List Int), (∀ c ∈ met, c < 0) → ∀ c ∈ metVars met t, c < 0
  | [], met, h, c, hc => h c hc
  | d :: t, met, h, c, hc => by
    unfold metVars at hc
    refine metVars_neg t _ (fun x hx => ?_) c hc
    by_cases hd : d < 0
    · rw [if_pos hd] at hx
      unfold meet at hx
      split at hx
      · exact h x hx
      · rcases List.mem_append.1 hx with hx | hx
        · exact h x hx
        · simp at hx; subst hx; exact hd
    · rw [if_neg hd] at hx; exact h x hx
/-- Whether a code is among the first few of those that are met. -/
def metTo (met : List Int) (x : Int) (k : Nat) : Bool := decide (0 ≤ x) || decide (x ∈ met.take k)
theorem metTo_step {met : List Int} {x : Int} {k : Nat} (hk : k < met.length) : metTo met x (k + 1) = (metTo met x k || decide (met.getD k 0 = x)) := by
  unfold metTo
  rw [take_succ' met 0 hk]
  by_cases h0 : 0 ≤ x
  · simp [h0]
  · by_cases h1 : x ∈ met.take k
    · simp [h0, h1]
    · simp only [h0, decide_false, Bool.false_or, List.mem_append, List.mem_singleton, h1, false_or]
      by_cases h2 : x = met.getD k 0
      · rw [decide_eq_true h2, decide_eq_true h2.symm]
      · rw [decide_eq_false h2, decide_eq_false (fun e => h2 e.symm)]
set_option maxRecDepth 100000 in
set_option maxHeartbeats 2000000 in
theorem refvars_any (B : Option Addr) (t : List Int) (tc : Nat) (w : World) (ht : Ints w B t) (h8 : t.length * 8 ≤ 140737488355328) :
    Calls Tryd.prog 17 #[.slice B t.length tc] w fun e w' => ∃ v, e = .returned v ∧ Below w.heap.size w w' ∧ RowO w' w.heap.size v (varsOf t) := by
  have m2 := ht.2.1
  unfold varsOf
  generalize hR : metVars [] t = R
  have HR := Lib.hid hR
  clear hR
  go_enter Tryd.func17, Tryd.ntmps17
  go_wp2_with fail
  go_loopg [3, 4] t.length (fun gk V i wr => ∃ (k : Nat) (met : List Int), Aside (gk + k = t.length) ∧ i = .int .i64 k ∧ Below w.heap.size w wr ∧ RowO wr w.heap.size V (met.map fun c => -1 - c) ∧ met.length ≤ k ∧ Aside (R = metVars met (t.drop k)))
  case atStart => exact ⟨0, [], (rfl : t.length + 0 = _), rfl, Below.refl _ _, RowO.nil _ _, Nat.le_refl _, by rw [List.drop_zero]; exact HR.out.symm⟩
  case round =>
    clear HR
    obtain ⟨k, met, hg, rfl, hB, hO, hml, hE⟩ := hrel
    have hk : k ≤ t.length := by have := hg.out; omega
    obtain ⟨OA, OC, hu, hIm⟩ := hO.ints
    rw [show (met.map fun c => -1 - c).length = met.length by simp] at hu
    subst hu
    by_cases hlt : k < t.length
    · obtain ⟨b, off, x, rfl, hx, hx1, hx2, hxc⟩ := (ht.kept hB).at_ hlt
      have HE : Hid (R = metVars (if x < 0 then meet met x else met) (t.drop (k + 1))) := Lib.hid (hE.out.trans (metVars_step hlt hx))
      clear hE hx
      have hwr : w.heap.size ≤ wr.heap.size := hB.size
      have HO := Lib.hid hO
      have HIm := Lib.hid hIm
      clear hO hIm
      go_wp2_with fail
      obtain ⟨gx, hgx⟩ : ∃ g, g = decide (0 ≤ x) := ⟨_, rfl⟩
      go_loopg [5, 6] met.length (fun gj iv jv wx => ∃ (j : Nat), Aside (gj + j = met.length) ∧ jv = .int .i64 j ∧ iv = .bool (metTo met x j) ∧ Below wr.heap.size wr wx ∧ j ≤ met.length)
      case atStart => exact ⟨0, (rfl : met.length + 0 = _), by go_num, by simp [metTo], Below.refl _ _, Nat.zero_le _⟩
      case round =>
        obtain ⟨j, hgj, rfl, rfl, hBj, hj⟩ := hrel
        by_cases hjl : j < met.length
        · have hIj := HIm.out.kept hBj
          obtain ⟨b2, off2, y, rfl, hy, hy1, hy2, hyc⟩ := hIj.at_ (k := j) (by rw [List.length_map]; exact hjl)
          have hxc2 := cell_kept hBj hxc
          have hyv : y = -1 - met.getD j 0 := by
            rw [← hy]; simp [List.getD_eq_getElem?_getD, List.getElem?_map, List.getElem?_eq_getElem hjl]
          have hst := metTo_step (met := met) (x := x) hjl
          have hq : (y == -1 - x) = decide (met.getD j 0 = x) := by
            by_cases h : met.getD j 0 = x
            · rw [decide_eq_true h, beq_iff_eq]; omega
            · rw [decide_eq_false h, beq_eq_false_iff_ne]; omega
          rw [← hq] at hst
          have HST := Lib.hid hst
          clear hy hyv hst hq hIj
          generalize metTo met x j = mm at HST ⊢
          cases mm with
          | true =>
            go_wp2_with fail
            go_quiet (fail)
            go_wp2_with fail
            go_roundg (met.length - (j + 1))
            case measure => have := hgj.out; omega
            case rel => exact ⟨j + 1, by have := hgj.out; show _ = _; omega, by go_num, by rw [HST.out]; rfl, below_drawN hBj _, by omega⟩
          | false =>
            by_cases hyx : y = -1 - x
            · have hq1 : (y == -1 - x) = true := beq_iff_eq.2 hyx
              have HQ := Lib.hid hq1
              have hyx1 : -9223372036854775808 ≤ -1 - x ∧ -1 - x ≤ 9223372036854775807 := by omega
              clear hyx
              go_wp2_with fail
              go_quiet (fail)
              go_wp2_with fail
              go_roundg (met.length - (j + 1))
              case measure => have := hgj.out; omega
              case rel => exact ⟨j + 1, by have := hgj.out; show _ = _; omega, by go_num, by rw [HST.out, HQ.out]; rfl, below_drawN hBj _, by omega⟩
            · have hq1 : (y == -1 - x) = false := beq_eq_false_iff_ne.2 hyx
              have HQ := Lib.hid hq1
              have hyx1 : -9223372036854775808 ≤ -1 - x ∧ -1 - x ≤ 9223372036854775807 := by omega
              clear hyx
              go_wp2_with fail
              go_quiet (fail)
              go_wp2_with fail
              go_roundg (met.length - (j + 1))
              case measure => have := hgj.out; omega
              case rel => exact ⟨j + 1, by have := hgj.out; show _ = _; omega, by go_num, by rw [HST.out, HQ.out]; rfl, below_drawN hBj _, by omega⟩
        · have hje : j = met.length := by omega
          subst hje
          have hmt : metTo met x met.length = (decide (0 ≤ x) || decide (x ∈ met)) := by unfold metTo; rw [List.take_length]
          rw [hmt]
          have hBr := below_then hB hwr hBj
          have hxc2 := cell_kept hBj hxc
          have HO2 : Hid (RowO wr w.heap.size (.slice OA met.length OC) (met.map fun c => -1 - c)) := Lib.hid (HO.out.below hBj)
          clear hmt HIm
          by_cases hin : 0 ≤ x ∨ x ∈ met
          · have hb : (decide (0 ≤ x) || decide (x ∈ met)) = true := by rcases hin with h | h <;> simp [h]
            rw [hb]
            have HN : Hid (R = metVars met (t.drop (k + 1))) := Lib.hid (by
              rw [HE.out]
              by_cases h0 : x < 0
              · rw [if_pos h0, meet_in (hin.resolve_left (by omega))]
              · rw [if_neg h0])
            clear hin hb HE
            go_wp2_with fail
            go_roundg (t.length - (k + 1))
            case measure => have := hg.out; omega
            case rel => exact ⟨k + 1, met, by have := hg.out; show _ = _; omega, by go_num, hBr, HO2.out, by omega, HN.out⟩
          · have hx0 : x < 0 := by omega
            have hxm : x ∉ met := fun h => hin (.inr h)
            have hb : (decide (0 ≤ x) || decide (x ∈ met)) = false := by simp [hxm]; omega
            rw [hb]
            have HN : Hid (R = metVars (met ++ [x]) (t.drop (k + 1))) := Lib.hid (by rw [HE.out, if_pos hx0]; unfold meet; rw [if_neg hxm])
            have hO1 := HO2.out.1
            have hmap : (met.map fun c => -1 - c).length = met.length := by simp
            rw [hmap] at hO1
            have hrg := Lib.hid HO2.out.2.2
            have h99 : (met.length + 1) * 8 ≤ 140737488355328 := by omega
            have hwx := hBr.size
            clear hin hb HE hxm hmap HO2
            go_wp2_with (at_builtin; refine push_all (.tmp 39) (.tmp 45) 27 3 (.int .i64 0) 1 8 rfl rfl Tryd.underlying27 infoInt rfl (by decide) (by decide) w.heap.size _ met.length (icells (met.map fun c => -1 - c)) (icells [-1 - x]) rfl (hO1.alloc _) _ 1 1 rfl (fun h => by cases h) (icells_length _) (fun _ => ⟨_, 0, rfl, var_cells _ _ _ _ rfl⟩) (icells_one _) h99 (by simp; omega) ?_; intro v5 w5 ho5 hg5 ha5)
            have HB5 : Hid (Below w.heap.size w w5) := Lib.hid ((below_alloc hBr hwx _).grown hg5 (by simp; omega) (fun j hj => (hO1.lt j hj).1))
            have HO5 : Hid (RowO w5 w.heap.size v5 ((met ++ [x]).map fun c => -1 - c)) := Lib.hid ⟨by rw [List.length_map, List.length_append, icells_neg]; exact ho5, by rw [List.length_map, List.length_append]; exact h99, fun y hy => by
              obtain ⟨c, hc, rfl⟩ := List.mem_map.1 hy
              rcases List.mem_append.1 hc with hc | hc
              · exact hrg.out _ (List.mem_map_of_mem hc)
              · simp at hc; subst hc; exact ⟨by omega, by omega⟩⟩
            clear ho5 hg5 ha5 hO1
            go_roundg (t.length - (k + 1))
            case measure => have := hg.out; omega
            case rel => exact ⟨k + 1, met ++ [x], by have := hg.out; show _ = _; omega, by go_num, HB5.out, HO5.out, by rw [List.length_append]; show met.length + 1 ≤ k + 1; omega, HN.out⟩
    · have hkn : k = t.length := by omega
      subst hkn
      go_wp2_with fail
      go_ret
      have hr := hE.out.trans metVars_end
      subst hr
      exact ⟨_, rfl, hB, hO⟩
end Go.Proofs.YtfhkbfofjjmbaaaDoor
