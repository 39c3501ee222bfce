/- The document's way to what lies behind a place, and what is wrong with a place. Conditions: none. -/
import Derived.Test.YtfelhlffiiephaaDoorPlaces
import Derived.Test.YtfelhlffiiephaaDoorRow
set_option linter.unusedVariables false
set_option linter.unusedSimpArgs false
namespace Go.Proofs.YtfelhlffiiephaaDoor
open Go.RowKit Go.Lib

set_option maxRecDepth 100000 in
set_option maxHeartbeats 2000000 in
theorem end_any (A B : Option Addr) (l : List Sy) (t : List Int) (sc tc : Nat) (p e : Nat) (he : scanAt l t 1 p = .ok e) (w : World) (hG : Good l) (hl : Sigs w A l) (ht : Ints w B t) :
    Calls Tryd.prog 31 #[.slice A l.length sc, .slice B t.length tc, .int .i64 p] w fun e' w' => e' = .returned (.int .i64 e) ∧ w = w' := by
  have hmax := ht.2.1
  have hm := hG.1
  have hp := (scan_more (k := 0) he).1
  have HE := Lib.hid he
  clear he
  go_enter Tryd.func31, Tryd.ntmps31
  go_wp2_with fail
  go_loopg [2, 7] (t.length + 1 - p) (fun gk i v wx => ∃ k j : Nat, Aside (gk + j = t.length + 1) ∧ i = .int .i64 j ∧ v = .int .i64 k ∧ k ≤ 1 + 8 * j ∧ j ≤ t.length ∧ w = wx ∧ Aside (scanAt l t k j = .ok e))
  case atStart => exact ⟨1, p, (by omega : t.length + 1 - p + p = t.length + 1), rfl, rfl, by omega, by omega, rfl, HE.out⟩
  case round =>
    clear HE
    obtain ⟨k, j, hg, rfl, rfl, hk8, hj, rfl, hS⟩ := hrel
    cases k with
    | zero =>
      have he : j = e := by have := hS.out; rw [scanAt_zero] at this; injection this
      subst he
      go_wp2_with fail
      go_ret
      exact ⟨rfl, rfl⟩
    | succ k =>
      obtain ⟨hjt, hb, hN⟩ := scan_more hS.out
      obtain ⟨b, off, c, rfl, hgc, hc1, hc2, hcc⟩ := ht.at_ hjt
      rw [hgc] at hb hN
      have hb1 : c < (l.length : Int) := by unfold codeBad at hb; omega
      have HN := Lib.hid hN
      clear hN hgc hS hb
      by_cases hneg : c < 0
      · have HB' : Hid (scanAt l t k (j + 1) = .ok e) := Lib.hid (by have := HN.out; rw [arOf, if_pos hneg] at this; exact this)
        go_wp2_with fail
        go_roundg (t.length - j)
        case measure => have := hg.out; omega
        case rel => exact ⟨k, j + 1, by have := hg.out; show _ = _; omega, by go_num, by go_num, by omega, by omega, rfl, HB'.out⟩
      · obtain ⟨cn, rfl⟩ := Int.eq_ofNat_of_zero_le (show 0 ≤ c by omega)
        have hcn : cn < l.length := by omega
        obtain ⟨b2, off2, sn, an, rfl, hgs, _, _, ha⟩ := hl.at_ hcn
        have han := hG.2 _ (getD_mem (d := sy0) hcn hgs)
        obtain ⟨an, rfl⟩ := Int.eq_ofNat_of_zero_le han.1
        have han8 : an ≤ 8 := by have := han.2; simp at this; omega
        have HB' : Hid (scanAt l t (k + an) (j + 1) = .ok e) := Lib.hid (by have := HN.out; rw [arOf, if_neg hneg, Int.toNat_natCast, hgs] at this; exact this)
        clear hgs han
        go_wp2_with fail
        go_roundg (t.length - j)
        case measure => have := hg.out; omega
        case rel => exact ⟨k + an, j + 1, by have := hg.out; show _ = _; omega, by go_num, by go_num, by omega, by omega, rfl, HB'.out⟩
set_option maxRecDepth 100000 in
theorem place_any (A B : Option Addr) (l : List Sy) (t : List Int) (sc tc : Nat) (a : Int) (ha : -9223372036854775808 ≤ a ∧ a ≤ 9223372036854775807) (w : World) (hl : Sigs w A l) (ht : Ints w B t) :
    Calls Tryd.prog 41 #[.slice A l.length sc, .slice B t.length tc, .int .i64 a] w fun e w' => e = .returned (.int .i64 (placeErr l t a)) ∧ Below w.heap.size w w' := by
  have hmax := ht.2.1
  have cC := refcheck_any A B l t l.length sc t.length tc rfl rfl w hl ht
  unfold placeErr
  generalize termErr l t = er at cC ⊢
  by_cases h0 : er = 0
  · subst h0
    rw [if_neg (by simp)]
    by_cases ha0 : a < 0
    · rw [if_pos (.inl ha0)]
      go_enter Tryd.func41, Tryd.ntmps41
      go_wp2_with fail
      refine cC.mono ?_
      rintro e w1 ⟨rfl, hb1⟩
      go_wp2_with fail
      go_ret
      exact ⟨rfl, hb1⟩
    · by_cases hal : (t.length : Int) ≤ a
      · rw [if_pos (.inr hal)]
        go_enter Tryd.func41, Tryd.ntmps41
        go_wp2_with fail
        refine cC.mono ?_
        rintro e w1 ⟨rfl, hb1⟩
        go_wp2_with fail
        go_ret
        exact ⟨rfl, hb1⟩
      · rw [if_neg (by omega)]
        go_enter Tryd.func41, Tryd.ntmps41
        go_wp2_with fail
        refine cC.mono ?_
        rintro e w1 ⟨rfl, hb1⟩
        go_wp2_with fail
        go_ret
        exact ⟨rfl, hb1⟩
  · have hq1 : (er == 0) = false := beq_eq_false_iff_ne.2 h0
    have hq2 : (er != 0) = true := bne_iff_ne.2 h0
    rw [if_pos h0]
    clear h0
    go_enter Tryd.func41, Tryd.ntmps41
    go_wp2_with fail
    refine cC.mono ?_
    rintro e w1 ⟨rfl, hb1⟩
    go_wp2_with fail
    go_ret
    exact ⟨rfl, hb1⟩
end Go.Proofs.YtfelhlffiiephaaDoor
