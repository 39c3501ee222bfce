/- What binds make of a row, and the walks of the program's way and of the document's way. Conditions: utf8's tables as laid. -/
import Derived.Test.YthpdfkhmhaobgaaDoorSubstRef
set_option linter.unusedVariables false
set_option linter.unusedSimpArgs false
namespace Go.Proofs.YthpdfkhmhaobgaaDoor
open Go.RowKit Go.Lib

/-- What a variable is bound to. -/
def boundIn (s : List Bd) (v : Int) : Option (List Int) := (s.find? fun b => b.1 == v).map (·.2)
theorem bound_skip (s : List Bd) (v : Int) : ∀ k, k ≤ s.length → (∀ j, j < k → (s.getD j bd0).1 ≠ v) → boundIn s v = boundIn (s.drop k) v
  | 0, _, _ => by simp
  | k + 1, hk, h => by
    rw [bound_skip s v k (by omega) (fun j hj => h j (by omega))]
    have hd : s.drop k = s.getD k bd0 :: s.drop (k + 1) := by
      rw [List.drop_eq_getElem_cons (show k < s.length by omega)]; simp [List.getD_eq_getElem?_getD, List.getElem?_eq_getElem (show k < s.length by omega)]
    rw [hd, boundIn, List.find?_cons]
    have := h k (by omega)
    rw [show ((s.getD k bd0).1 == v) = false from beq_eq_false_iff_ne.2 this]
    rfl
theorem bound_hit {s : List Bd} {v : Int} {k : Nat} (hk : k < s.length) (h : ∀ j, j < k → (s.getD j bd0).1 ≠ v) (hv : (s.getD k bd0).1 = v) : boundIn s v = some (s.getD k bd0).2 := by
  rw [bound_skip s v k (by omega) h]
  have hd : s.drop k = s.getD k bd0 :: s.drop (k + 1) := by
    rw [List.drop_eq_getElem_cons hk]; simp [List.getD_eq_getElem?_getD, List.getElem?_eq_getElem hk]
  rw [hd, boundIn, List.find?_cons, show ((s.getD k bd0).1 == v) = true from beq_iff_eq.2 hv]
  rfl
theorem bound_miss {s : List Bd} {v : Int} (h : ∀ j, j < s.length → (s.getD j bd0).1 ≠ v) : boundIn s v = none := by
  rw [bound_skip s v s.length (Nat.le_refl _) h, List.drop_length]; rfl
/-- What a code becomes. -/
def become (s : List Bd) (c : Int) : List Int := if c < 0 then (boundIn s (-1 - c)).getD [c] else [c]
/-- What binds make of a row, behind what they have made. -/
def laidOn (s : List Bd) : List Int → List Int → Option (List Int)
  | acc, [] => some acc
  | acc, c :: t => if 512 < acc.length + (become s c).length then none else laidOn s (acc ++ become s c) t
def applyErr (l : List Sy) (s : List Bd) (t : List Int) : Int :=
  if substErr l s ≠ 0 then substErr l s else if termErr l t ≠ 0 then termErr l t else if (laidOn s [] t).isSome then 0 else 2
def applied (l : List Sy) (s : List Bd) (t : List Int) : List Int := if applyErr l s t = 0 then (laidOn s [] t).getD [] else []

set_option maxRecDepth 100000 in
theorem bound_any (A : Option Addr) (s : List Bd) (c : Nat) (v : Int) (w : World) (hs : Binds w A s) :
    Calls Tryd.prog 46 #[.slice A s.length c, .int .i64 v] w fun e w' => ∃ u, e = .returned (.tuple #[u, .bool (boundIn s v).isSome]) ∧ w = w' ∧ ∀ t, boundIn s v = some t → RowV w u t := by
  have m1 := hs.1
  have hH := fun k => bound_hit (s := s) (v := v) (k := k)
  have hM := bound_miss (s := s) (v := v)
  generalize boundIn s v = r at hH hM ⊢
  have HH := Lib.hid hH
  have HM := Lib.hid hM
  clear hH hM
  go_enter Tryd.func46, Tryd.ntmps46
  go_wp2_with fail
  go_loopg [6] s.length (fun gk i wx => ∃ k : Nat, Aside (gk + k = s.length) ∧ i = .int .i64 k ∧ w = wx ∧ Aside (∀ j, j < k → (s.getD j bd0).1 ≠ v))
  case atStart => exact ⟨0, (rfl : s.length + 0 = _), rfl, rfl, fun j hj => by omega⟩
  case round =>
    obtain ⟨k, hg, rfl, rfl, hE⟩ := hrel
    have hk : k ≤ s.length := by have := hg.out; omega
    by_cases hlt : k < s.length
    · obtain ⟨b, off, x, t, C, d, rfl, hx, hx1, hx2, hc1, hc2, hd1, hd2, h8, ht⟩ := hs.at_ hlt
      have HX := Lib.hid hx
      clear hx
      by_cases hq : x = v
      · have hq1 : (x == v) = true := beq_iff_eq.2 hq
        have HQ := Lib.hid hq
        clear hq
        go_wp2_with fail
        go_ret2
        have hr := HH.out k hlt hE.out (by rw [HX.out]; exact HQ.out)
        rw [HX.out] at hr
        subst hr
        exact ⟨_, rfl, rfl, fun t' h => by cases h; exact ⟨C, d, rfl, hd1, hd2, h8, ht⟩⟩
      · have hq1 : (x == v) = false := beq_eq_false_iff_ne.2 hq
        have HQ := Lib.hid hq
        clear hq
        go_wp2_with fail
        go_roundg (s.length - (k + 1))
        case measure => have := hg.out; omega
        case rel =>
          refine ⟨k + 1, by have := hg.out; show _ = _; omega, by go_num, rfl, fun j hj => ?_⟩
          by_cases e : j = k
          · subst e; rw [HX.out]; exact HQ.out
          · exact hE.out j (by omega)
    · have hkn : k = s.length := by omega
      subst hkn
      go_wp2_with fail
      go_ret2
      have hr := HM.out hE.out
      subst hr
      exact ⟨_, rfl, rfl, fun t h => by cases h⟩

theorem become_range {s : List Bd} {c : Int} (hs : ∀ x ∈ s, ∀ y ∈ x.2, -9223372036854775808 ≤ y ∧ y ≤ 9223372036854775807) (hc : -9223372036854775808 ≤ c ∧ c ≤ 9223372036854775807) : ∀ y ∈ become s c, -9223372036854775808 ≤ y ∧ y ≤ 9223372036854775807 := by
  intro y hy
  unfold become at hy
  split at hy
  · unfold boundIn at hy
    cases hf : s.find? (fun b => b.1 == -1 - c) with
    | none => rw [hf] at hy; simp at hy; subst hy; exact hc
    | some b => rw [hf] at hy; exact hs b (List.mem_of_find?_eq_some hf) y hy
  · simp at hy; subst hy; exact hc
theorem Binds.range {w : World} {A : Option Addr} {s : List Bd} (h : Binds w A s) : ∀ x ∈ s, ∀ y ∈ x.2, -9223372036854775808 ≤ y ∧ y ≤ 9223372036854775807 := by
  intro x hx
  obtain ⟨k, hk, rfl⟩ := List.getElem_of_mem hx
  obtain ⟨b, off, x, t, C, d, _, hx, _, _, _, _, _, _, _, ht⟩ := h.at_ hk
  rw [List.getD_eq_getElem?_getD, List.getElem?_eq_getElem hk] at hx
  have e : s[k] = (x, t) := hx
  rw [e]
  exact ht.1
theorem laid_step {s : List Bd} {acc t : List Int} {k : Nat} {c : Int} (hk : k < t.length) (hc : t.getD k 0 = c) : laidOn s acc (t.drop k) = if 512 < acc.length + (become s c).length then none else laidOn s (acc ++ become s c) (t.drop (k + 1)) := by
  rw [drop_cons t k hk, hc]; rfl
theorem laid_end {s : List Bd} {acc t : List Int} : laidOn s acc (t.drop t.length) = some acc := by rw [List.drop_length]; rfl
set_option maxRecDepth 100000 in
set_option maxHeartbeats 4000000 in
theorem laid_ref_any (A B : Option Addr) (s : List Bd) (t : List Int) (c tc : Nat) (hcap : t.length ≤ tc) (w : World) (hs : Binds w A s) (ht : Ints w B t) :
    Calls Tryd.prog 33 #[.slice A s.length c, .slice B t.length tc, .int .i64 512] w fun e w' =>
      ∃ v, e = .returned (.tuple #[v, .bool (laidOn s [] t).isSome]) ∧ Below w.heap.size w w' ∧ RowO w' w.heap.size v ((laidOn s [] t).getD []) := by
  have m1 := hs.1
  have m2 := ht.2.1
  have hsr := hs.range
  obtain ⟨hb, hhb⟩ : ∃ x, x = w.heap.size := ⟨_, rfl⟩
  have hown0 := own_empty w 3 1 hb hhb
  generalize hR : laidOn s [] t = R
  have HR := Lib.hid hR
  have HSR := Lib.hid hsr
  clear hR hsr
  go_enter Tryd.func33, Tryd.ntmps33
  go_wp2_with fail
  rw [← hhb]
  have HHB := Lib.hid hhb
  clear hhb
  go_loopg [8, 9] t.length (fun gk v i wr => ∃ (k : Nat) (acc : List Int), Aside (gk + k = t.length) ∧ i = .int .i64 k ∧ Below hb w wr ∧ RowO wr hb v acc ∧ acc.length ≤ 512 ∧ Aside (R = laidOn s acc (t.drop k)))
  case atStart => exact ⟨0, [], (rfl : t.length + 0 = _), rfl, by rw [HHB.out]; exact below_alloc0 _ _, ⟨hown0, by simp, fun x hx => by cases hx⟩, by simp, by rw [List.drop_zero]; exact HR.out.symm⟩
  case round =>
    obtain ⟨k, acc, hg, rfl, hB, hO, h512, hE⟩ := hrel
    have hk : k ≤ t.length := by have := hg.out; omega
    have hHs : hb ≤ wr.heap.size := by have := hB.size; rw [HHB.out]; exact this
    obtain ⟨AO, cO, rfl, hnO⟩ := own_slice hO.1
    have HO := Lib.hid hO
    have hO1 := hO.1
    clear hO
    by_cases hlt : k < t.length
    · have ht' := ht.kept (show Below w.heap.size w wr by rw [← HHB.out]; exact hB)
      have hs' := hs.kept (show Below w.heap.size w wr by rw [← HHB.out]; exact hB)
      obtain ⟨b, off, x, rfl, hx, hx1, hx2, hxc⟩ := ht'.at_ hlt
      have HE : Hid (R = if 512 < acc.length + (become s x).length then none else laidOn s (acc ++ become s x) (t.drop (k + 1))) := Lib.hid (hE.out.trans (laid_step hlt hx))
      have HX := Lib.hid hx
      clear hx hE
      by_cases hneg : x < 0
      · obtain ⟨u, hu⟩ : ∃ u, u = boundIn s (-1 - x) := ⟨_, rfl⟩
        have cB := bound_any A s c (-1 - x) wr hs'
        rw [← hu] at cB
        have HU := Lib.hid hu
        clear hu
        cases u with
        | none =>
          have hbc : become s x = [x] := by unfold become; rw [if_pos hneg, ← HU.out]; rfl
          have HBC := Lib.hid hbc
          clear hbc
          by_cases hbig : 512 < acc.length + 1
          · have hbig' : (512 : Int) - (acc.length : Int) < (1 : Int) := by omega
            go_wp2_with (go_at_call 46; refine cB.mono ?_; rintro e w2 ⟨u', rfl, rfl, hu⟩)
            go_ret2
            have hr := HE.out.trans (if_pos (by rw [HBC.out]; exact hbig))
            subst hr
            exact ⟨_, rfl, by rw [← HHB.out]; exact hB, RowO.nil _ _⟩
          · have hbig' : ¬ ((512 : Int) - (acc.length : Int) < (1 : Int)) := by omega
            go_wp2_with (first
              | (at_builtin; refine push_all (.tmp 49) (.tmp 50) 24 3 (.int .i64 0) 1 8 rfl rfl Tryd.underlying24 infoInt rfl (by decide) (by decide) hb _ acc.length (icells acc) (icells [x]) rfl hO1 (some ⟨b, off + k, none⟩) 1 (tc - k) rfl (fun h => by cases h) (icells_length _) (one_cells hxc) (icells_one _) (by omega) hHs ?_; intro v' w3 ho3 hg3 ha3)
              | (go_at_call 46; refine cB.mono ?_; rintro e w2 ⟨u', rfl, rfl, hu⟩))
            go_roundg (t.length - (k + 1))
            case measure => have := hg.out; omega
            case rel =>
              refine ⟨k + 1, acc ++ [x], by have := hg.out; show _ = _; omega, by go_num, hB.grown hg3 hHs (fun j hj => (hO1.lt j hj).1), RowO.pushed ho3 (by first | omega | (simp only [List.length_cons, List.length_nil]; omega)) HO.out.2.2 (fun y hy => by simp at hy; subst hy; exact ⟨hx1, hx2⟩), by rw [List.length_append]; show acc.length + 1 ≤ 512; omega, ?_⟩
              have hr := HE.out.trans (if_neg (by rw [HBC.out]; exact hbig))
              rw [HBC.out] at hr
              exact hr
        | some u =>
          have hbc : become s x = u := by unfold become; rw [if_pos hneg, ← HU.out]; rfl
          have HBC := Lib.hid hbc
          clear hbc
          by_cases hbig : 512 < acc.length + u.length
          · have hbig' : (512 : Int) - (acc.length : Int) < (u.length : Int) := by omega
            go_wp2_with (go_at_call 46; refine cB.mono ?_; rintro e w2 ⟨u', rfl, rfl, hu⟩; obtain ⟨C', d', rfl, hd1, hd2, h8, hti⟩ := hu u rfl)
            go_ret2
            have hr := HE.out.trans (if_pos (by rw [HBC.out]; exact hbig))
            subst hr
            exact ⟨_, rfl, by rw [← HHB.out]; exact hB, RowO.nil _ _⟩
          · have hbig' : ¬ ((512 : Int) - (acc.length : Int) < (u.length : Int)) := by omega
            go_wp2_with (first
              | (at_builtin; refine push_all (.tmp 49) (.tmp 50) 24 3 (.int .i64 0) 1 8 rfl rfl Tryd.underlying24 infoInt rfl (by decide) (by decide) hb _ acc.length (icells acc) (icells u) rfl hO1 C' u.length d' rfl hd2 (icells_length _) hti.cells (icells_one _) (by omega) hHs ?_; intro v' w3 ho3 hg3 ha3)
              | (go_at_call 46; refine cB.mono ?_; rintro e w2 ⟨u', rfl, rfl, hu⟩; obtain ⟨C', d', rfl, hd1, hd2, h8, hti⟩ := hu u rfl))
            go_roundg (t.length - (k + 1))
            case measure => have := hg.out; omega
            case rel =>
              refine ⟨k + 1, acc ++ u, by have := hg.out; show _ = _; omega, by go_num, hB.grown hg3 hHs (fun j hj => (hO1.lt j hj).1), RowO.pushed ho3 (by first | omega | (simp only [List.length_cons, List.length_nil]; omega)) HO.out.2.2 hti.1, by rw [List.length_append]; show acc.length + u.length ≤ 512; omega, ?_⟩
              have hr := HE.out.trans (if_neg (by rw [HBC.out]; exact hbig))
              rw [HBC.out] at hr
              exact hr
      · have hbc : become s x = [x] := by unfold become; rw [if_neg hneg]
        have HBC := Lib.hid hbc
        clear hbc
        by_cases hbig : 512 < acc.length + 1
        · have hbig' : (512 : Int) - (acc.length : Int) < (1 : Int) := by omega
          go_wp2_with fail
          go_ret2
          have hr := HE.out.trans (if_pos (by rw [HBC.out]; exact hbig))
          subst hr
          exact ⟨_, rfl, by rw [← HHB.out]; exact hB, RowO.nil _ _⟩
        · have hbig' : ¬ ((512 : Int) - (acc.length : Int) < (1 : Int)) := by omega
          go_wp2_with (first
            | (at_builtin; refine push_all (.tmp 49) (.tmp 50) 24 3 (.int .i64 0) 1 8 rfl rfl Tryd.underlying24 infoInt rfl (by decide) (by decide) hb _ acc.length (icells acc) (icells [x]) rfl hO1 (some ⟨b, off + k, none⟩) 1 (tc - k) rfl (fun h => by cases h) (icells_length _) (one_cells hxc) (icells_one _) (by omega) hHs ?_; intro v' w3 ho3 hg3 ha3)
            | fail)
          go_roundg (t.length - (k + 1))
          case measure => have := hg.out; omega
          case rel =>
            refine ⟨k + 1, acc ++ [x], by have := hg.out; show _ = _; omega, by go_num, hB.grown hg3 hHs (fun j hj => (hO1.lt j hj).1), RowO.pushed ho3 (by first | omega | (simp only [List.length_cons, List.length_nil]; omega)) HO.out.2.2 (fun y hy => by simp at hy; subst hy; exact ⟨hx1, hx2⟩), by rw [List.length_append]; show acc.length + 1 ≤ 512; omega, ?_⟩
            have hr := HE.out.trans (if_neg (by rw [HBC.out]; exact hbig))
            rw [HBC.out] at hr
            exact hr
    · have hkn : k = t.length := by omega
      subst hkn
      go_wp2_with fail
      go_ret2
      have hr := hE.out.trans laid_end
      subst hr
      exact ⟨_, rfl, by rw [← HHB.out]; exact hB, by rw [← HHB.out]; exact HO.out⟩

set_option maxRecDepth 100000 in
set_option maxHeartbeats 2000000 in
theorem apply_ref_any (A B C : Option Addr) (l : List Sy) (s : List Bd) (t : List Int) (sc c tc : Nat) (hcap : t.length ≤ tc) (w : World) (hl : Sigs w A l) (hs : Binds w B s) (ht : Ints w C t) :
    Calls Tryd.prog 18 #[.slice A l.length sc, .slice B s.length c, .slice C t.length tc] w fun e w' =>
      ∃ v, e = .returned (.tuple #[v, .int .i64 (applyErr l s t)]) ∧ Below w.heap.size w w' ∧ RowO w' w.heap.size v (applied l s t) := by
  have cS := subst_refcheck_any A B l s sc c w hl hs
  have cT := fun W h1 h2 => refcheck_any A C l t l.length sc t.length tc rfl rfl W h1 h2
  have cL := fun W h1 h2 => laid_ref_any B C s t c tc hcap W h1 h2
  unfold applied applyErr
  generalize substErr l s = e1 at cS ⊢
  generalize termErr l t = e2 at cT ⊢
  generalize laidOn s [] t = R at cL ⊢
  by_cases h1 : e1 = 0
  · subst h1
    by_cases h2 : e2 = 0
    · subst h2
      cases R with
      | none =>
        go_enter Tryd.func18, Tryd.ntmps18
        go_wp2_with (first
          | (go_at_call 32; refine cS.mono ?_; rintro e w1 ⟨rfl, hb1⟩; have hl1 := hl.kept hb1; have hs1 := hs.kept hb1; have ht1 := ht.kept hb1)
          | (go_at_call 28; refine (cT _ hl1 ht1).mono ?_; rintro e w2 ⟨rfl, hb2⟩; have hs2 := hs1.kept hb2; have ht2 := ht1.kept hb2)
          | (go_at_call 33; refine (cL _ hs2 ht2).mono ?_; rintro e w3 ⟨v, rfl, hb3, hO⟩))
        go_ret2
        exact ⟨_, rfl, below_then hb1 hb1.size (below_then hb2 hb2.size hb3), RowO.nil _ _⟩
      | some out =>
        go_enter Tryd.func18, Tryd.ntmps18
        go_wp2_with (first
          | (go_at_call 32; refine cS.mono ?_; rintro e w1 ⟨rfl, hb1⟩; have hl1 := hl.kept hb1; have hs1 := hs.kept hb1; have ht1 := ht.kept hb1)
          | (go_at_call 28; refine (cT _ hl1 ht1).mono ?_; rintro e w2 ⟨rfl, hb2⟩; have hs2 := hs1.kept hb2; have ht2 := ht1.kept hb2)
          | (go_at_call 33; refine (cL _ hs2 ht2).mono ?_; rintro e w3 ⟨v, rfl, hb3, hO⟩))
        go_ret2
        exact ⟨_, rfl, below_then hb1 hb1.size (below_then hb2 hb2.size hb3), hO.base (Nat.le_trans hb1.size hb2.size)⟩
    · have hq1 : (e2 == 0) = false := beq_eq_false_iff_ne.2 h2
      have hq2 : (e2 != 0) = true := bne_iff_ne.2 h2
      simp only [ne_eq, eq_self_iff_true, not_true_eq_false, not_false_eq_true, h2, if_true, if_false]
      clear h2
      go_enter Tryd.func18, Tryd.ntmps18
      go_wp2_with (first
        | (go_at_call 32; refine cS.mono ?_; rintro e w1 ⟨rfl, hb1⟩; have hl1 := hl.kept hb1; have hs1 := hs.kept hb1; have ht1 := ht.kept hb1)
        | (go_at_call 28; refine (cT _ hl1 ht1).mono ?_; rintro e w2 ⟨rfl, hb2⟩; have hs2 := hs1.kept hb2; have ht2 := ht1.kept hb2))
      go_ret2
      exact ⟨_, rfl, below_then hb1 hb1.size hb2, RowO.nil _ _⟩
  · have hq1 : (e1 == 0) = false := beq_eq_false_iff_ne.2 h1
    have hq2 : (e1 != 0) = true := bne_iff_ne.2 h1
    simp only [ne_eq, eq_self_iff_true, not_true_eq_false, not_false_eq_true, h1, if_true, if_false]
    clear h1
    go_enter Tryd.func18, Tryd.ntmps18
    go_wp2_with (go_at_call 32; refine cS.mono ?_; rintro e w1 ⟨rfl, hb1⟩)
    go_ret2
    exact ⟨_, rfl, hb1, RowO.nil _ _⟩
end Go.Proofs.YthpdfkhmhaobgaaDoor
