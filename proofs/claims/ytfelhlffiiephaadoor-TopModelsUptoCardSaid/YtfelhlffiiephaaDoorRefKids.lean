/- The document's way to the places below a place. Conditions: none. -/
import Derived.Test.YtfelhlffiiephaaDoorEnd
set_option linter.unusedVariables false
set_option linter.unusedSimpArgs false
namespace Go.Proofs.YtfelhlffiiephaaDoor
open Go.RowKit Go.Lib

set_option maxRecDepth 100000 in
set_option maxHeartbeats 2000000 in
theorem refkids_any (A B : Option Addr) (l : List Sy) (t : List Int) (sc tc : Nat) (a : Int) (ha : -9223372036854775808 ≤ a ∧ a ≤ 9223372036854775807) (w : World) (hl : Sigs w A l) (ht : Ints w B t) (h8 : t.length * 8 ≤ 140737488355328) :
    Calls Tryd.prog 29 #[.slice A l.length sc, .slice B t.length tc, .int .i64 a] w fun e w' => ∃ v, e = .returned (.tuple #[v, .int .i64 (placeErr l t a)]) ∧ Below w.heap.size w w' ∧ RowO w' w.heap.size v (if placeErr l t a = 0 then kidsAt l t a.toNat else []) := by
  have m2 := ht.2.1
  have cP := place_any A B l t sc tc a ha w hl ht
  have hz := place_zero (l := l) (t := t) (a := a)
  generalize placeErr l t a = er at cP hz ⊢
  by_cases h0 : er = 0
  · subst h0
    obtain ⟨hte, h1, h2⟩ := hz rfl
    have hG := good_of (term_sig hte)
    have hm := hG.1
    obtain ⟨p, rfl⟩ := Int.eq_ofNat_of_zero_le h1
    have hp : p < t.length := by omega
    obtain ⟨E, hE, hE2, _⟩ := scan_inside t.length 1 0 t.length (by omega) (root_ok hte) p (Nat.zero_le _) hp
    obtain ⟨_, hb, hN⟩ := scan_more (k := 0) hE
    obtain ⟨b, off, c, rfl, hgc, hc1, hc2, hcc⟩ := ht.at_ hp
    rw [hgc] at hb hN
    have hcl : c < (l.length : Int) := by unfold codeBad at hb; omega
    rw [Int.toNat_natCast, if_pos rfl]
    by_cases hneg : c < 0
    · have HK : Hid (kidsAt l t p = []) := Lib.hid (by unfold kidsAt; rw [hgc, if_pos hneg])
      clear hz h1 h2 hte hE hN hgc hb
      go_enter Tryd.func29, Tryd.ntmps29
      go_wp2_with fail
      refine cP.mono ?_
      rintro e w1 ⟨rfl, hb1⟩
      have hcc1 := cell_kept hb1 hcc
      go_wp2_with fail
      go_ret2
      exact ⟨_, rfl, hb1, by rw [HK.out]; exact RowO.nil _ _⟩
    · obtain ⟨cn, rfl⟩ := Int.eq_ofNat_of_zero_le (show 0 ≤ c by omega)
      have hcn : cn < l.length := by omega
      obtain ⟨b2, off2, sn, an, rfl, hgs, _, _, hac⟩ := hl.at_ hcn
      have han := hG.2 _ (getD_mem (d := sy0) hcn hgs)
      obtain ⟨an, rfl⟩ := Int.eq_ofNat_of_zero_le han.1
      have han8 : an ≤ 8 := by have := han.2; simp at this; omega
      have har : arOf l (cn : Int) = an := by rw [arOf, if_neg hneg, Int.toNat_natCast, hgs]; rfl
      rw [har, Nat.zero_add] at hN
      have HK : Hid (kidsAt l t p = kidsFrom l t an (p + 1)) := Lib.hid (by unfold kidsAt; rw [hgc, if_neg hneg, har])
      have HN := Lib.hid hN
      clear hz h1 h2 hte hE hN hgc hb hgs han har
      go_enter Tryd.func29, Tryd.ntmps29
      go_wp2_with fail
      refine cP.mono ?_
      rintro e w1 ⟨rfl, hb1⟩
      have hcc1 := cell_kept hb1 hcc
      have hac1 := cell_kept hb1 hac
      have hl1 := hl.kept hb1
      have ht1 := ht.kept hb1
      clear hcc hac hl ht cP
      go_wp2_with fail
      go_loopg [9, 10, 11] an (fun gq V hv iv wx => ∃ (q m : Nat) (acc : List Int), Aside (gq + q = an) ∧ iv = .int .i64 q ∧ hv = .int .i64 m ∧ Aside (scanAt l t (an - q) m = .ok E) ∧ m ≤ t.length ∧ Below w1.heap.size w1 wx ∧
        RowO wx w1.heap.size V acc ∧ acc.length = q ∧ Aside (kidsFrom l t an (p + 1) = acc ++ kidsFrom l t (an - q) m))
      case atStart => exact ⟨0, p + 1, [], (rfl : an + 0 = _), rfl, by go_num, HN.out, by omega, Below.refl _ _, RowO.nil _ _, rfl, rfl⟩
      case round =>
        clear HN
        obtain ⟨q, m, acc, hgq, rfl, rfl, hsc, hm, hB, hO, hal, hKE⟩ := hrel
        have hq : q ≤ an := by have := hgq.out; omega
        have HKE := Lib.hid hKE.out
        have HSC := Lib.hid hsc.out
        clear hsc hKE
        have hcc2 := cell_kept hB hcc1
        have hac2 := cell_kept hB hac1
        by_cases hlt : q < an
        · obtain ⟨m', hs1, hs2, hmm⟩ := scan_next (show scanAt l t (an - (q + 1) + 1) m = .ok E by rw [show an - (q + 1) + 1 = an - q by omega]; exact HSC.out)
          have hm' : m' ≤ t.length := (scanAt_ok hs1).2 hm
          have cE := fun W h1 h2 => end_any (some ⟨b2, off2, none⟩) (some ⟨b, off, none⟩) l t sc tc m m' hs1 W hG h1 h2
          have HS2 := Lib.hid hs2
          have HNX : Hid (kidsFrom l t an (p + 1) = (acc ++ [(m : Int)]) ++ kidsFrom l t (an - (q + 1)) m') := Lib.hid (by
            rw [HKE.out, show an - q = (an - (q + 1)) + 1 by omega, kidsFrom, endOf_ok hs1]; simp)
          clear hs1 hs2 HSC HKE
          obtain ⟨OA, OC, rfl, _⟩ := own_slice hO.1
          have hO1 := hO.1
          have hrg := Lib.hid hO.2.2
          have hw1 : w1.heap.size ≤ wr.heap.size := hB.size
          have h99 : (acc.length + 1) * 8 ≤ 140737488355328 := by omega
          clear hO
          go_wp2_with (first
            | (at_builtin; refine push_all (.tmp 38) (.tmp 40) 38 3 (.int .i64 0) 1 8 rfl rfl Tryd.underlying38 infoInt rfl (by decide) (by decide) w1.heap.size _ acc.length (icells acc) (icells [(m : Int)]) rfl (hO1.alloc _) _ 1 1 rfl (fun h => by cases h) (icells_length _) (fun _ => ⟨_, 0, rfl, var_cells _ _ _ _ rfl⟩) (icells_one _) h99 (by simp; omega) ?_; intro v5 w5 ho5 hg5 ha5
               have HB5 : Hid (Below w1.heap.size w1 w5) := Lib.hid ((below_alloc hB hw1 _).grown hg5 (by simp; omega) (fun j hj => (hO1.lt j hj).1))
               have HO5 : Hid (RowO w5 w1.heap.size v5 (acc ++ [(m : Int)])) := Lib.hid (RowO.pushed (piece := [(m : Int)]) ho5 (by simp only [List.length_cons, List.length_nil]; omega) hrg.out (fun y hy => by simp at hy; subst hy; exact ⟨by omega, by omega⟩))
               clear ho5 hg5 ha5 hO1)
            | (go_at_call 31; refine (cE _ (hl1.kept HB5.out) (ht1.kept HB5.out)).mono ?_; rintro e' w' ⟨rfl, rfl⟩))
          go_roundg (an - (q + 1))
          case measure => have := hgq.out; omega
          case rel => exact ⟨q + 1, m', acc ++ [(m : Int)], by have := hgq.out; show _ = _; omega, by go_num, by go_num, HS2.out, hm', HB5.out, HO5.out, by rw [List.length_append]; show acc.length + 1 = q + 1; omega, HNX.out⟩
        · have hqe : q = an := by omega
          subst hqe
          go_wp2_with fail
          go_ret2
          refine ⟨_, rfl, below_then hb1 hb1.size hB, ?_⟩
          rw [HK.out, HKE.out, Nat.sub_self, show kidsFrom l t 0 m = [] from rfl, List.append_nil]
          exact hO.base hb1.size
  · have hq1 : (er == 0) = false := beq_eq_false_iff_ne.2 h0
    have hq2 : (er != 0) = true := bne_iff_ne.2 h0
    rw [if_neg h0]
    clear hz h0
    go_enter Tryd.func29, Tryd.ntmps29
    go_wp2_with fail
    refine cP.mono ?_
    rintro e w1 ⟨rfl, hb1⟩
    go_wp2_with fail
    go_ret2
    exact ⟨_, rfl, hb1, RowO.nil _ _⟩
end Go.Proofs.YtfelhlffiiephaaDoor
