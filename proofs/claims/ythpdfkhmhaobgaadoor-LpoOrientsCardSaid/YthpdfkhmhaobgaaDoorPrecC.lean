/- The walks of the two questions: is one symbol above another one. Conditions: none. -/
import Derived.Test.YthpdfkhmhaobgaaDoorPrecB
import Derived.Test.YthpdfkhmhaobgaaDoorPrecR
set_option linter.unusedVariables false
set_option linter.unusedSimpArgs false
namespace Go.Proofs.YthpdfkhmhaobgaaDoor
open Go.RowKit

theorem above_any (b : Nat) (n : Int) (l : List (Int × Int)) (f g : Int) (w : World) (hP : IsPrec w b n l) :
    Calls Tryd.prog 51 #[.pointer (some ⟨b, 0, none⟩), .int .i64 f, .int .i64 g] w fun e w' => e = .returned (.bool (up l f g)) ∧ Below w.heap.size w w' := by
  obtain ⟨D, hP, hG, h0, h1, hD⟩ := hP
  have hn := hP.cn
  by_cases hin : 0 ≤ f ∧ f < n ∧ 0 ≤ g ∧ g < n
  · obtain ⟨a1, a2, a3, a4⟩ := hin
    obtain ⟨f, rfl⟩ := Int.eq_ofNat_of_zero_le a1
    obtain ⟨g, rfl⟩ := Int.eq_ofNat_of_zero_le a3
    have c1 := hP.cl f (by omega)
    have c2 := hP.ch f (by omega)
    have hu : up l f g = (D f).testBit g := by
      rw [Bool.eq_iff_iff, up_iff, hD]
    have hW : W128 (D f) := by
      unfold W128
      refine Nat.lt_pow_two_of_testBit _ fun j hj => ?_
      cases hb : (D f).testBit j with
      | false => rfl
      | true => have := ((hD f j).1 hb).range hG; omega
    have f128 : (f : Int) < 128 := by omega
    have HU := Lib.hid hu
    clear hu hD hP
    go_enter Tryd.func51, Tryd.ntmps51
    go_wp2_with (go_at_call 36; refine (has_any (D f) g _ hW (by omega)).mono ?_; rintro e w' ⟨rfl, hb⟩)
    go_ret
    exact ⟨by rw [HU.out]; rfl, hb⟩
  · have hu : up l f g = false := by
      rw [up_false]
      intro h
      have := h.range hG
      omega
    have HU := Lib.hid hu
    clear hu hD hP
    by_cases a1 : 0 ≤ f
    · by_cases a2 : f < n
      · by_cases a3 : 0 ≤ g
        · have a4 : ¬ g < n := by omega
          clear hin
          go_enter Tryd.func51, Tryd.ntmps51
          go_wp2_with fail
          go_ret
          exact ⟨by rw [HU.out]; rfl, Below.refl _ _⟩
        · clear hin
          go_enter Tryd.func51, Tryd.ntmps51
          go_wp2_with fail
          go_ret
          exact ⟨by rw [HU.out]; rfl, Below.refl _ _⟩
      · clear hin
        go_enter Tryd.func51, Tryd.ntmps51
        go_wp2_with fail
        go_ret
        exact ⟨by rw [HU.out]; rfl, Below.refl _ _⟩
    · clear hin
      go_enter Tryd.func51, Tryd.ntmps51
      go_wp2_with fail
      go_ret
      exact ⟨by rw [HU.out]; rfl, Below.refl _ _⟩

theorem refabove_any (b : Nat) (n : Int) (l : List (Int × Int)) (f g : Int) (w : World) (hP : IsRef w b n l) :
    Calls Tryd.prog 44 #[.pointer (some ⟨b, 0, none⟩), .int .i64 f, .int .i64 g] w fun e w' => e = .returned (.bool (up l f g)) ∧ w = w' := by
  obtain ⟨N, r, v, U, rfl, h1, hR, hG, hU⟩ := hP
  have hh := hR.head
  by_cases hin : 0 ≤ f ∧ 0 ≤ g ∧ f < N ∧ g < N
  · obtain ⟨a1, a2, a3, a4⟩ := hin
    obtain ⟨f, rfl⟩ := Int.eq_ofNat_of_zero_le a1
    obtain ⟨g, rfl⟩ := Int.eq_ofNat_of_zero_le a2
    obtain ⟨gb, cap, rfl, hg⟩ := hR.at_ (by omega)
    have e2 := hg f (by omega)
    have e3 := ((hR.row f (by omega)).2 g (by omega)).1
    have hu : up l f g = U f g := by rw [Bool.eq_iff_iff, up_iff, hU]
    have HU := Lib.hid hu
    clear hu hU hg hR
    go_enter Tryd.func44, Tryd.ntmps44
    go_wp2_with fail
    go_ret
    exact ⟨by rw [HU.out]; rfl, rfl⟩
  · have hu : up l f g = false := by
      rw [up_false]
      intro h
      have := h.range hG
      omega
    have hv : ∃ A cap, v = .slice A N cap := by
      rcases hR.form with ⟨hN, hv⟩ | ⟨gb, cap, hv, _⟩
      · exact ⟨none, 0, by rw [hv, hN]⟩
      · exact ⟨_, cap, hv⟩
    obtain ⟨A, cap, rfl⟩ := hv
    have HU := Lib.hid hu
    clear hu hU hR
    by_cases a1 : 0 ≤ f
    · by_cases a2 : 0 ≤ g
      · by_cases a3 : f < N
        · have a4 : ¬ g < N := by omega
          clear hin
          go_enter Tryd.func44, Tryd.ntmps44
          go_wp2_with fail
          go_ret
          exact ⟨by rw [HU.out]; rfl, rfl⟩
        · clear hin
          go_enter Tryd.func44, Tryd.ntmps44
          go_wp2_with fail
          go_ret
          exact ⟨by rw [HU.out]; rfl, rfl⟩
      · clear hin
        go_enter Tryd.func44, Tryd.ntmps44
        go_wp2_with fail
        go_ret
        exact ⟨by rw [HU.out]; rfl, rfl⟩
    · clear hin
      go_enter Tryd.func44, Tryd.ntmps44
      go_wp2_with fail
      go_ret
      exact ⟨by rw [HU.out]; rfl, rfl⟩
end Go.Proofs.YthpdfkhmhaobgaaDoor
