/- What is wrong with binds, and the document's test of binds. Conditions: none. -/
import Derived.Test.YthpdfkhmhaobgaaDoorBind
set_option linter.unusedVariables false
set_option linter.unusedSimpArgs false
namespace Go.Proofs.YthpdfkhmhaobgaaDoor
open Go.RowKit Go.Lib

theorem binds_eq (a b : List Bd) (h : a.length = b.length) (hk : ∀ k, k < a.length → a.getD k bd0 = b.getD k bd0) : a = b := by
  apply List.ext_getElem h
  intro i h1 h2
  have := hk i h1
  simpa [List.getD_eq_getElem?_getD, List.getElem?_eq_getElem h1, List.getElem?_eq_getElem h2] using this
/-! ### checks -/
/-- What is wrong with the bind at a place. -/
def bindErr (l : List Sy) (s : List Bd) (i : Nat) : Int :=
  if (s.getD i bd0).1 < 0 ∨ 1048576 ≤ (s.getD i bd0).1 then 40 else if 0 < i ∧ (s.getD i bd0).1 ≤ (s.getD (i - 1) bd0).1 then 41 else rowErr l (s.getD i bd0).2
def bindsFrom (l : List Sy) (s : List Bd) : Nat → Nat → Int
  | 0, _ => 0
  | f + 1, i => if bindErr l s i = 0 then bindsFrom l s f (i + 1) else bindErr l s i
/-- What is wrong with binds. -/
def substErr (l : List Sy) (s : List Bd) : Int := if sigErr l ≠ 0 then sigErr l else bindsFrom l s s.length 0

theorem if_err {R e X c : Int} (h : R = if e = 0 then X else e) (he : e = c) (hc : c ≠ 0) : R = c := by subst he; rw [h, if_neg hc]
theorem if_ok {R e X : Int} (h : R = if e = 0 then X else e) (he : e = 0) : R = X := by rw [h, if_pos he]
theorem bindErr_of {l : List Sy} {s : List Bd} {k : Nat} {x : Int} {t : List Int} (h : s.getD k bd0 = (x, t)) :
    bindErr l s k = if x < 0 ∨ 1048576 ≤ x then 40 else if 0 < k ∧ x ≤ (s.getD (k - 1) bd0).1 then 41 else rowErr l t := by unfold bindErr; rw [h]
set_option maxRecDepth 100000 in
set_option maxHeartbeats 4000000 in
theorem subst_refcheck_any (A B : Option Addr) (l : List Sy) (s : List Bd) (sc c : Nat) (w : World) (hl : Sigs w A l) (hs : Binds w B s) :
    Calls Tryd.prog 32 #[.slice A l.length sc, .slice B s.length c] w fun e w' => e = .returned (.int .i64 (substErr l s)) ∧ Below w.heap.size w w' := by
  have cS := refsig_any A l l.length sc rfl w hl
  have m1 := hs.1
  unfold substErr
  by_cases h : sigErr l = 0
  · rw [if_neg (by simp [h])]
    have cC : ∀ (C : Option Addr) (t : List Int) (tc : Nat) (W : World), Sigs W A l → Ints W C t → Calls Tryd.prog 28 #[.slice A l.length sc, .slice C t.length tc] W fun e w' => e = .returned (.int .i64 (rowErr l t)) ∧ Below W.heap.size W w' := fun C t tc W h1 h2 => by
      have := refcheck_any A C l t l.length sc t.length tc rfl rfl W h1 h2
      unfold termErr at this
      rwa [if_neg (by simp [h])] at this
    rw [h] at cS
    clear h
    generalize hR : bindsFrom l s s.length 0 = R
    have HR := Lib.hid hR
    clear hR
    go_enter Tryd.func32, Tryd.ntmps32
    go_wp2_with (go_at_call 41; refine cS.mono ?_; rintro e w1 ⟨rfl, hb1⟩)
    go_loopg [6] s.length (fun gk i wr => ∃ k : Nat, Aside (gk + k = s.length) ∧ i = .int .i64 k ∧ Below w.heap.size w wr ∧ Aside (R = bindsFrom l s gk k))
    case atStart => exact ⟨0, (rfl : s.length + 0 = s.length), rfl, hb1, HR.out.symm⟩
    case round =>
      clear hb1 cS
      obtain ⟨k, hg, rfl, hB, hE⟩ := hrel
      have hk : k ≤ s.length := by have := hg.out; omega
      by_cases hlt : k < s.length
      · obtain ⟨gm, rfl⟩ : ∃ gm, gk = gm + 1 := ⟨gk - 1, by have := hg.out; omega⟩
        have hs' := hs.kept hB
        obtain ⟨b, off, x, t, C, d, rfl, hx, hx1, hx2, hc1, hc2, hd1, hd2, h8, ht⟩ := hs'.at_ hlt
        have HE : Hid (R = if bindErr l s k = 0 then bindsFrom l s gm (k + 1) else bindErr l s k) := Lib.hid hE.out
        have HX := Lib.hid hx
        clear hx hE
        by_cases q1 : x < 0
        · go_wp2_with fail
          go_ret
          exact ⟨by rw [if_err HE.out ((bindErr_of HX.out).trans (if_pos (.inl q1))) (by decide)]; rfl, hB⟩
        by_cases q2 : 1048576 ≤ x
        · go_wp2_with fail
          go_ret
          exact ⟨by rw [if_err HE.out ((bindErr_of HX.out).trans (if_pos (.inr q2))) (by decide)]; rfl, hB⟩
        cases k with
        | zero =>
          simp only [Nat.zero_mul, Nat.add_zero] at hc1 hc2
          have cX := fun W h1 h2 => cC C t d W h1 h2
          generalize hr : rowErr l t = r at cX
          have HRR := Lib.hid hr
          clear hr cC
          by_cases hr : r = 0
          · have hr1 : (r == 0) = true := beq_iff_eq.2 hr
            have hr2 : (r != 0) = false := by simp [hr]
            have HR0 := Lib.hid hr
            clear hr
            go_wp2_with fail
            go_quiet (fail)
            go_wp2_with (go_at_call 28; refine (cX _ (hl.kept (below_drawN hB _)) (ht.kept (below_drawN (Below.refl _ _) _))).mono ?_; rintro e w3 ⟨rfl, hb3⟩)
            go_roundg gm
            case measure => omega
            case rel => exact ⟨0 + 1, by have := hg.out; show _ = _; omega, by go_num, below_then (below_drawN hB _) (below_drawN hB _).size hb3, if_ok HE.out ((bindErr_of HX.out).trans ((if_neg (by omega)).trans ((if_neg (by omega)).trans (HRR.out.trans HR0.out))))⟩
          · have hr1 : (r == 0) = false := beq_eq_false_iff_ne.2 hr
            have hr2 : (r != 0) = true := bne_iff_ne.2 hr
            have HR0 := Lib.hid hr
            clear hr
            go_wp2_with fail
            go_quiet (fail)
            go_wp2_with (go_at_call 28; refine (cX _ (hl.kept (below_drawN hB _)) (ht.kept (below_drawN (Below.refl _ _) _))).mono ?_; rintro e w3 ⟨rfl, hb3⟩)
            go_ret
            exact ⟨by rw [if_err HE.out ((bindErr_of HX.out).trans ((if_neg (by omega)).trans ((if_neg (by omega)).trans HRR.out))) HR0.out]; rfl, below_then (below_drawN hB _) (below_drawN hB _).size hb3⟩
        | succ m =>
          obtain ⟨b', off', x', t', C', d', hAe, hx', hx1', hx2', hc1', _⟩ := hs'.at_ (show m < s.length by omega)
          injection hAe with hAe
          injection hAe with e1 e2 _
          subst e1 e2
          have HX' := Lib.hid hx'
          have hml : m < s.length := by omega
          have hml' : (m : Int) + 1 - 1 = (m : Int) := by omega
          have hblt : b < wr.heap.size := World.block_lt_of_cell? wr _ hc1
          clear hx'
          by_cases q3 : x ≤ x'
          · go_wp2_with fail
            go_quiet (fail)
            go_wp2_with fail
            go_ret
            exact ⟨by rw [if_err HE.out ((bindErr_of HX.out).trans ((if_neg (by omega)).trans (if_pos (by rw [Nat.add_sub_cancel, HX'.out]; exact ⟨Nat.succ_pos m, q3⟩)))) (by decide)]; rfl, below_drawN hB _⟩
          · have cX := fun W h1 h2 => cC C t d W h1 h2
            generalize hr : rowErr l t = r at cX
            have HRR := Lib.hid hr
            clear hr cC
            by_cases hr : r = 0
            · have hr1 : (r == 0) = true := beq_iff_eq.2 hr
              have hr2 : (r != 0) = false := by simp [hr]
              have HR0 := Lib.hid hr
              clear hr
              go_wp2_with fail
              go_quiet (fail)
              go_wp2_with (go_at_call 28; refine (cX _ (hl.kept (below_drawN hB _)) (ht.kept (below_drawN (Below.refl _ _) _))).mono ?_; rintro e w3 ⟨rfl, hb3⟩)
              go_roundg gm
              case measure => omega
              case rel => exact ⟨(m + 1) + 1, by have := hg.out; show _ = _; omega, by go_num, below_then (below_drawN hB _) (below_drawN hB _).size hb3, if_ok HE.out ((bindErr_of HX.out).trans ((if_neg (by omega)).trans ((if_neg (by rw [Nat.add_sub_cancel, HX'.out]; show ¬ (0 < m + 1 ∧ x ≤ x'); omega)).trans (HRR.out.trans HR0.out))))⟩
            · have hr1 : (r == 0) = false := beq_eq_false_iff_ne.2 hr
              have hr2 : (r != 0) = true := bne_iff_ne.2 hr
              have HR0 := Lib.hid hr
              clear hr
              go_wp2_with fail
              go_quiet (fail)
              go_wp2_with (go_at_call 28; refine (cX _ (hl.kept (below_drawN hB _)) (ht.kept (below_drawN (Below.refl _ _) _))).mono ?_; rintro e w3 ⟨rfl, hb3⟩)
              go_ret
              exact ⟨by rw [if_err HE.out ((bindErr_of HX.out).trans ((if_neg (by omega)).trans ((if_neg (by rw [Nat.add_sub_cancel, HX'.out]; show ¬ (0 < m + 1 ∧ x ≤ x'); omega)).trans HRR.out))) HR0.out]; rfl, below_then (below_drawN hB _) (below_drawN hB _).size hb3⟩
      · have hkn : k = s.length := by omega
        subst hkn
        go_wp2_with fail
        go_ret
        have : gk = 0 := by have := hg.out; omega
        subst this
        exact ⟨by rw [hE.out]; rfl, hB⟩
  · rw [if_pos h]
    have hb : (sigErr l != 0) = true := bne_iff_ne.2 h
    have hb' : (sigErr l == 0) = false := beq_eq_false_iff_ne.2 h
    clear h
    go_enter Tryd.func32, Tryd.ntmps32
    go_wp2_with (go_at_call 41; refine cS.mono ?_; rintro e w' ⟨rfl, hb⟩)
    go_ret
    exact ⟨rfl, hb⟩
end Go.Proofs.YthpdfkhmhaobgaaDoor
