/- What a reading of arrays of two or three rows of numbers, and of two numbers, says of memory. Conditions: none. -/
import Derived.Test.YtfelhlffiiephaaDoorOpenD
import Derived.OpenShut
set_option linter.unusedVariables false
set_option linter.unusedSimpArgs false
namespace Go.Proofs.YtfelhlffiiephaaDoor
open Go.ChangeShapes Go.WideShapes Go.ChangeAt Go.RowKit

section
variable {H : Type} {enc : TypeId × Value → H} {P : Program} {w : World} {base : Nat} {spare : Nat → Bool} {held : Bool}
theorem okWide_array {n : Nat} {t e : TypeId} {r : Go.Reach} {b0 : Nat} {v : Value} (ht : P.underlying t = some (.array n e)) (h : Value.okWide P w r b0 t v) : ∃ cs, v = .agg cs ∧ cs.size = P.cellsOf t := by
  simp only [Value.okWide, ht] at h
  obtain ⟨cs, h1, h2, _⟩ := h
  exact ⟨cs, h1, h2⟩
theorem Reach.item {t e : TypeId} {n : Nat} {parts : List (DataW H)} (h : Reach P t (.agg parts)) (ht : P.underlying t = some (.array n e)) {d : DataW H} (hd : d ∈ parts) : Reach P e d := fun n hn =>
  h n (by simp only [DataW.weights, ht]; exact mem_weightsAll hd hn)
/-- How many places a row's datum has. -/
def RowD (d : DataW H) (z : List Int) : Prop := d = .nil ∧ z = [] ∨ ∃ (el : List (DataW H)) (sp : List (DataW H)), d = .slice el sp ∧ el.length = z.length
theorem list_three {α : Type} {cs : List α} (h : cs.length = 3) : ∃ x y z, cs = [x, y, z] := by
  match cs, h with
  | [x, y, z], _ => exact ⟨x, y, z, rfl⟩
theorem open_rows2 {t e f : TypeId} {fuel : Nat} {cs : List Value} {x : DataW H × List MemPlace} (ht : P.underlying t = some (.array 2 e)) (he : P.underlying e = some (.slice f)) (hf : P.underlying f = some (.int .i64)) (hct : P.cellsOf t = 2) (hce : P.cellsOf e = 1) (hcf : P.cellsOf f = 1) (hB : P.bytesOf f = 8)
    (hR : Reach P t x.1) (h : DataW.trod enc P w base spare held fuel t cs = some x) :
    ∃ v1 v2 z1 z2 y1 y2, cs = [v1, v2] ∧ x.1 = .agg [y1, y2] ∧ RowV w v1 z1 ∧ z1.length * 8 ≤ 140737488351232 ∧ RowD (H := H) y1 z1 ∧ RowV w v2 z2 ∧ z2.length * 8 ≤ 140737488351232 ∧ RowD (H := H) y2 z2 := by
  obtain ⟨xs, m, rfl, hx1, hcl, hxs, hx⟩ := DataW.trod_array ht h
  obtain ⟨c0, c1, rfl⟩ := list_two (hcl.trans hct)
  obtain ⟨x0, x1, rfl⟩ := list_two hxs
  have h0 := hx 0 (by omega)
  have h1 := hx 1 (by omega)
  simp [hce] at h0 h1
  subst hx1
  obtain ⟨v0, z0, e0, r0, b0, d0⟩ := open_row he hf hcf hB (Reach.item hR ht (by simp)) h0
  obtain ⟨v1, z1, e1, r1, b1, d1⟩ := open_row he hf hcf hB (Reach.item hR ht (by simp)) h1
  simp only [List.cons.injEq, and_true] at e0 e1
  subst e0 e1
  exact ⟨_, _, z0, z1, _, _, rfl, rfl, r0, b0, d0, r1, b1, d1⟩
theorem open_rows3 {t e f : TypeId} {fuel : Nat} {cs : List Value} {x : DataW H × List MemPlace} (ht : P.underlying t = some (.array 3 e)) (he : P.underlying e = some (.slice f)) (hf : P.underlying f = some (.int .i64)) (hct : P.cellsOf t = 3) (hce : P.cellsOf e = 1) (hcf : P.cellsOf f = 1) (hB : P.bytesOf f = 8)
    (hR : Reach P t x.1) (h : DataW.trod enc P w base spare held fuel t cs = some x) :
    ∃ v1 v2 v3 z1 z2 z3, cs = [v1, v2, v3] ∧ RowV w v1 z1 ∧ z1.length * 8 ≤ 140737488351232 ∧ RowV w v2 z2 ∧ z2.length * 8 ≤ 140737488351232 ∧ RowV w v3 z3 ∧ z3.length * 8 ≤ 140737488351232 := by
  obtain ⟨xs, m, rfl, hx1, hcl, hxs, hx⟩ := DataW.trod_array ht h
  obtain ⟨c0, c1, c2, rfl⟩ := list_three (hcl.trans hct)
  obtain ⟨x0, x1, x2, rfl⟩ := list_three hxs
  have h0 := hx 0 (by omega)
  have h1 := hx 1 (by omega)
  have h2 := hx 2 (by omega)
  simp [hce] at h0 h1 h2
  subst hx1
  obtain ⟨v0, z0, e0, r0, b0, _⟩ := open_row he hf hcf hB (Reach.item hR ht (by simp)) h0
  obtain ⟨v1, z1, e1, r1, b1, _⟩ := open_row he hf hcf hB (Reach.item hR ht (by simp)) h1
  obtain ⟨v2, z2, e2, r2, b2, _⟩ := open_row he hf hcf hB (Reach.item hR ht (by simp)) h2
  simp only [List.cons.injEq, and_true] at e0 e1 e2
  subst e0 e1 e2
  exact ⟨_, _, _, z0, z1, z2, rfl, r0, b0, r1, b1, r2, b2⟩
end
end Go.Proofs.YtfelhlffiiephaaDoor
