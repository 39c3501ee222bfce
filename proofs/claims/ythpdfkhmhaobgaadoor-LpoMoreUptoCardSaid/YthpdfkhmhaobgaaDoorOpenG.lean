/- What a reading of two rows of pairs says of memory. Conditions: none. -/
import Derived.Test.YthpdfkhmhaobgaaDoorOpenF
import Derived.Test.YthpdfkhmhaobgaaDoorBulk
set_option linter.unusedVariables false
set_option linter.unusedSimpArgs false
namespace Go.Proofs.YthpdfkhmhaobgaaDoor
open Go.ChangeShapes Go.WideShapes Go.ChangeAt Go.RowKit

section
variable {H : Type} {enc : TypeId × Value → H} {P : Program} {w : World} {base : Nat} {spare : Nat → Bool} {held : Bool}
/-- How many places a datum of pairs has. -/
def PairD (d : DataW H) (z : List (Int × Int)) : Prop := d = .nil ∧ z = [] ∨ ∃ (el : List (DataW H)) (sp : List (DataW H)), d = .slice el sp ∧ el.length = z.length
theorem pair_bulk {d : DataW H} {z : List (Int × Int)} (h : PairD d z) : z.length ≤ Rows.uptoBulk d := by
  rcases h with ⟨_, rfl⟩ | ⟨el, sp, rfl, h⟩
  · simp
  · have := bulks.slice_le el sp
    omega
theorem open_pairsD {t e f : TypeId} {fuel : Nat} {cs : List Value} {x : DataW H × List MemPlace} (ht : P.underlying t = some (.slice e)) (he : P.underlying e = some (.array 2 f)) (hf : P.underlying f = some (.int .i64)) (hc : P.cellsOf f = 1) (hce : P.cellsOf e = 2)
    (h : DataW.trod enc P w base spare held fuel t cs = some x) : ∃ A cap l, cs = [.slice A l.length cap] ∧ (A = none → l.length = 0 ∧ cap = 0) ∧ Pairs w A l ∧ PairD x.1 l := by
  obtain ⟨A, len, cap, m, ys, rfl, hl, hm, hn, hyl, hx, hel⟩ := open_any ht (by omega) h
  obtain ⟨zs, hz, hzs⟩ := choose_list ((0, 0) : Int × Int) len (fun i z => ∃ b off, A = some ⟨b, off, none⟩ ∧ w.cell? ⟨b, off + i * 2, none⟩ = some (.int .i64 z.1) ∧ w.cell? ⟨b, off + i * 2 + 1, none⟩ = some (.int .i64 z.2)) (fun i hi => by
    obtain ⟨b, off, hA, hcs⟩ := hel (by omega)
    obtain ⟨cs, y, hlc, hj, hy, _⟩ := hcs i hi
    rw [hce] at hlc hj
    obtain ⟨a, c, rfl, _, _⟩ := open_two he hf hc hlc hy
    exact ⟨(a, c), b, off, hA, by have := hj 0 (by omega); simpa using this, by have := hj 1 (by omega); simpa using this⟩)
  subst hz
  refine ⟨A, cap, zs, rfl, hn, ⟨by simp only [maxLen] at hm; omega, fun h0 => ?_⟩, ?_⟩
  · obtain ⟨b, off, hA, _⟩ := hel h0
    refine ⟨b, off, hA, fun k hk => ?_⟩
    obtain ⟨b', off', hA', h1, h2⟩ := hzs k hk
    rw [hA] at hA'
    cases hA'
    exact ⟨h1, h2⟩
  · rcases hx with ⟨h1, h2⟩ | ⟨sp, hx⟩
    · exact .inl ⟨h1, List.eq_nil_of_length_eq_zero h2⟩
    · exact .inr ⟨_, sp, hx, by simpa using hyl⟩
theorem open_pairs2 {t e f g : TypeId} {fuel : Nat} {cs : List Value} {x : DataW H × List MemPlace} (ht : P.underlying t = some (.array 2 e)) (he : P.underlying e = some (.slice f)) (hf : P.underlying f = some (.array 2 g)) (hg : P.underlying g = some (.int .i64)) (hct : P.cellsOf t = 2) (hce : P.cellsOf e = 1) (hcf : P.cellsOf f = 2) (hcg : P.cellsOf g = 1)
    (h : DataW.trod enc P w base spare held fuel t cs = some x) :
    ∃ A a l C c m y1 y2, cs = [.slice A l.length a, .slice C m.length c] ∧ x.1 = .agg [y1, y2] ∧ (A = none → l.length = 0 ∧ a = 0) ∧ Pairs w A l ∧ PairD (H := H) y1 l ∧ (C = none → m.length = 0 ∧ c = 0) ∧ Pairs w C m ∧ PairD (H := H) y2 m := by
  obtain ⟨xs, m, rfl, hx1, hcl, hxs, hx⟩ := DataW.trod_array ht h
  obtain ⟨c0, c1, rfl⟩ := list_two (hcl.trans hct)
  obtain ⟨x0, x1, rfl⟩ := list_two hxs
  have h0 := hx 0 (by omega)
  have h1 := hx 1 (by omega)
  simp [hce] at h0 h1
  subst hx1
  obtain ⟨A, a, l, e0, n0, r0, d0⟩ := open_pairsD he hf hg hcg hcf h0
  obtain ⟨C, c, m', e1, n1, r1, d1⟩ := open_pairsD he hf hg hcg hcf h1
  simp only [List.cons.injEq, and_true] at e0 e1
  subst e0 e1
  exact ⟨A, a, l, C, c, m', _, _, rfl, rfl, n0, r0, d0, n1, r1, d1⟩
end
end Go.Proofs.YthpdfkhmhaobgaaDoor
