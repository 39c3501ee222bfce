/- The program's test of binds. Conditions: utf8's tables as laid. -/
import Derived.Test.YtfelhlffiiephaaDoorTree
import Derived.Test.YtfelhlffiiephaaDoorSubstErr
set_option linter.unusedVariables false
set_option linter.unusedSimpArgs false
namespace Go.Proofs.YtfelhlffiiephaaDoor
open Go.RowKit Go.Lib

set_option maxRecDepth 100000 in
set_option maxHeartbeats 4000000 in
theorem subst_check_any (A B : Option Addr) (l : List Sy) (s : List Bd) (sc c : Nat) (hcap : l.length ≤ sc) (w : World) (hl : Sigs w A l) (hs : Binds w B s) (hT : Tabs w) :
    Calls Tryd.prog 37 #[.slice A l.length sc, .slice B s.length c] w fun e w' => e = .returned (.int .i64 (substErr l s)) ∧ Below w.heap.size w w' := by
  have cS := sig_any A l l.length sc rfl hcap w hl hT
  have m1 := hs.1
  unfold substErr
  by_cases h : sigErr l = 0
  · rw [if_neg (by simp [h])]
    have cC : ∀ (C : Option Addr) (t : List Int) (tc : Nat) (W : World), Sigs W A l → Ints W C t → Tabs W → Calls Tryd.prog 11 #[.slice A l.length sc, .slice C t.length tc] W fun e w' => e = .returned (.int .i64 (rowErr l t)) ∧ Below W.heap.size W w' := fun C t tc W h1 h2 h3 => by
      have := check_any A C l t l.length sc t.length tc rfl rfl hcap W h1 h2 h3
      unfold termErr at this
      rwa [if_neg (by simp [h])] at this
    rw [h] at cS
    clear h
    generalize hR : bindsFrom l s s.length 0 = R
    have HR := Lib.hid hR
    clear hR
    go_enter Tryd.func37, Tryd.ntmps37
    go_wp2_with (go_at_call 10; refine cS.mono ?_; rintro e w1 ⟨rfl, hb1⟩)
    go_loopg [16] s.length (fun gk i wr => ∃ k : Nat, Aside (gk + k = s.length) ∧ i = .int .i64 k ∧ Below w.heap.size w wr ∧ Aside (R = bindsFrom l s gk k))
    case atStart => exact ⟨0, (rfl : s.length + 0 = s.length), rfl, hb1, HR.out.symm⟩
    case round =>
      clear hb1 cS
      obtain ⟨k, hg, rfl, hB, hE⟩ := hrel
      have hk : k ≤ s.length := by have := hg.out; omega
      by_cases hlt : k < s.length
      · obtain ⟨gm, rfl⟩ : ∃ gm, gk = gm + 1 := ⟨gk - 1, by have := hg.out; omega⟩
        have hs' := hs.kept hB
        obtain ⟨b, off, x, t, C, d, rfl, hx, hx1, hx2, hc1, hc2, hd1, hd2, h8, ht⟩ := hs'.at_ hlt
        have HE : Hid (R = if bindErr l s k = 0 then bindsFrom l s gm (k + 1) else bindErr l s k) := Lib.hid hE.out
        have HX := Lib.hid hx
        clear hx hE
        by_cases q1 : x < 0
        · go_wp2_with fail
          go_ret
          exact ⟨by rw [if_err HE.out ((bindErr_of HX.out).trans (if_pos (.inl q1))) (by decide)]; rfl, below_alloc hB hB.size _⟩
        by_cases q2 : 1048576 ≤ x
        · go_wp2_with fail
          go_ret
          exact ⟨by rw [if_err HE.out ((bindErr_of HX.out).trans (if_pos (.inr q2))) (by decide)]; rfl, below_alloc hB hB.size _⟩
        cases k with
        | zero =>
          simp only [Nat.zero_mul, Nat.add_zero] at hc1 hc2
          have cX := fun W h1 h2 h3 => cC C t d W h1 h2 h3
          generalize hr : rowErr l t = r at cX
          have HRR := Lib.hid hr
          clear hr cC
          by_cases hr : r = 0
          · have hr1 : (r == 0) = true := beq_iff_eq.2 hr
            have hr2 : (r != 0) = false := by simp [hr]
            have HR0 := Lib.hid hr
            clear hr
            go_wp2_with fail
            go_quiet (fail)
            go_wp2_with (go_at_call 11; refine (cX _ (hl.kept (below_drawN (below_alloc hB hB.size _) _)) (ht.kept (below_drawN (below_alloc0 wr _) _)) (hT.kept (below_drawN (below_alloc hB hB.size _) _))).mono ?_; rintro e w3 ⟨rfl, hb3⟩)
            go_roundg gm
            case measure => omega
            case rel => exact ⟨0 + 1, by have := hg.out; show _ = _; omega, by go_num, below_then (below_drawN (below_alloc hB hB.size _) _) (below_drawN (below_alloc hB hB.size _) _).size hb3, if_ok HE.out ((bindErr_of HX.out).trans ((if_neg (by omega)).trans ((if_neg (by omega)).trans (HRR.out.trans HR0.out))))⟩
          · have hr1 : (r == 0) = false := beq_eq_false_iff_ne.2 hr
            have hr2 : (r != 0) = true := bne_iff_ne.2 hr
            have HR0 := Lib.hid hr
            clear hr
            go_wp2_with fail
            go_quiet (fail)
            go_wp2_with (go_at_call 11; refine (cX _ (hl.kept (below_drawN (below_alloc hB hB.size _) _)) (ht.kept (below_drawN (below_alloc0 wr _) _)) (hT.kept (below_drawN (below_alloc hB hB.size _) _))).mono ?_; rintro e w3 ⟨rfl, hb3⟩)
            go_ret
            exact ⟨by rw [if_err HE.out ((bindErr_of HX.out).trans ((if_neg (by omega)).trans ((if_neg (by omega)).trans HRR.out))) HR0.out]; rfl, below_then (below_drawN (below_alloc hB hB.size _) _) (below_drawN (below_alloc hB hB.size _) _).size hb3⟩
        | succ m =>
          obtain ⟨b', off', x', t', C', d', hAe, hx', hx1', hx2', hc1', _⟩ := hs'.at_ (show m < s.length by omega)
          injection hAe with hAe
          injection hAe with e1 e2 _
          subst e1 e2
          have HX' := Lib.hid hx'
          have hml : m < s.length := by omega
          have hml' : (m : Int) + 1 - 1 = (m : Int) := by omega
          have hblt : b < wr.heap.size := World.block_lt_of_cell? wr _ hc1
          clear hx'
          by_cases q3 : x ≤ x'
          · go_wp2_with fail
            go_quiet (fail)
            go_wp2_with fail
            go_ret
            exact ⟨by rw [if_err HE.out ((bindErr_of HX.out).trans ((if_neg (by omega)).trans (if_pos (by rw [Nat.add_sub_cancel, HX'.out]; exact ⟨Nat.succ_pos m, q3⟩)))) (by decide)]; rfl, below_drawN (below_alloc hB hB.size _) _⟩
          · have cX := fun W h1 h2 h3 => cC C t d W h1 h2 h3
            generalize hr : rowErr l t = r at cX
            have HRR := Lib.hid hr
            clear hr cC
            by_cases hr : r = 0
            · have hr1 : (r == 0) = true := beq_iff_eq.2 hr
              have hr2 : (r != 0) = false := by simp [hr]
              have HR0 := Lib.hid hr
              clear hr
              go_wp2_with fail
              go_quiet (fail)
              go_wp2_with (go_at_call 11; refine (cX _ (hl.kept (below_drawN (below_alloc hB hB.size _) _)) (ht.kept (below_drawN (below_alloc0 wr _) _)) (hT.kept (below_drawN (below_alloc hB hB.size _) _))).mono ?_; rintro e w3 ⟨rfl, hb3⟩)
              go_roundg gm
              case measure => omega
              case rel => exact ⟨(m + 1) + 1, by have := hg.out; show _ = _; omega, by go_num, below_then (below_drawN (below_alloc hB hB.size _) _) (below_drawN (below_alloc hB hB.size _) _).size hb3, if_ok HE.out ((bindErr_of HX.out).trans ((if_neg (by omega)).trans ((if_neg (by rw [Nat.add_sub_cancel, HX'.out]; show ¬ (0 < m + 1 ∧ x ≤ x'); omega)).trans (HRR.out.trans HR0.out))))⟩
            · have hr1 : (r == 0) = false := beq_eq_false_iff_ne.2 hr
              have hr2 : (r != 0) = true := bne_iff_ne.2 hr
              have HR0 := Lib.hid hr
              clear hr
              go_wp2_with fail
              go_quiet (fail)
              go_wp2_with (go_at_call 11; refine (cX _ (hl.kept (below_drawN (below_alloc hB hB.size _) _)) (ht.kept (below_drawN (below_alloc0 wr _) _)) (hT.kept (below_drawN (below_alloc hB hB.size _) _))).mono ?_; rintro e w3 ⟨rfl, hb3⟩)
              go_ret
              exact ⟨by rw [if_err HE.out ((bindErr_of HX.out).trans ((if_neg (by omega)).trans ((if_neg (by rw [Nat.add_sub_cancel, HX'.out]; show ¬ (0 < m + 1 ∧ x ≤ x'); omega)).trans HRR.out))) HR0.out]; rfl, below_then (below_drawN (below_alloc hB hB.size _) _) (below_drawN (below_alloc hB hB.size _) _).size hb3⟩
      · have hkn : k = s.length := by omega
        subst hkn
        go_wp2_with fail
        go_ret
        have : gk = 0 := by have := hg.out; omega
        subst this
        exact ⟨by rw [hE.out]; rfl, hB⟩
  · rw [if_pos h]
    have hb : (sigErr l != 0) = true := bne_iff_ne.2 h
    have hb' : (sigErr l == 0) = false := beq_eq_false_iff_ne.2 h
    clear h
    go_enter Tryd.func37, Tryd.ntmps37
    go_wp2_with (go_at_call 10; refine cS.mono ?_; rintro e w' ⟨rfl, hb⟩)
    go_ret
    exact ⟨rfl, hb⟩
end Go.Proofs.YtfelhlffiiephaaDoor
