/- What a reading of the structs of layer 11's statements, and of two rows of pairs, says of memory. Conditions: none. -/
import Derived.Test.YtfelhlffiiephaaDoorOpenE
import Derived.Deep.Strs
set_option linter.unusedVariables false
set_option linter.unusedSimpArgs false
namespace Go.Proofs.YtfelhlffiiephaaDoor
open Go.ChangeShapes Go.WideShapes Go.ChangeAt Go.RowKit

section
variable {H : Type} {enc : TypeId × Value → H} {P : Program} {w : World} {base : Nat} {spare : Nat → Bool} {held : Bool}
theorem list_five {α : Type} {cs : List α} (h : cs.length = 5) : ∃ x y z u v, cs = [x, y, z, u, v] := by
  match cs, h with
  | [x, y, z, u, v], _ => exact ⟨x, y, z, u, v, rfl⟩
theorem open_rule {t g : TypeId} {f0 f1 : Field} {fuel : Nat} {cs : List Value} {x : DataW H × List MemPlace} (ht : P.underlying t = some (.struct #[f0, f1])) (hct : P.cellsOf t = 2)
    (h0s : P.underlying f0.type = some (.slice g)) (h0c : P.cellsOf f0.type = 1) (h0o : f0.offset = 0) (h1s : P.underlying f1.type = some (.slice g)) (h1c : P.cellsOf f1.type = 1) (h1o : f1.offset = 1)
    (hg : P.underlying g = some (.int .i64)) (hgc : P.cellsOf g = 1) (hB : P.bytesOf g = 8) (hR : Reach P t x.1) (h : DataW.trod enc P w base spare held fuel t cs = some x) :
    ∃ v1 v2 z1 z2, cs = [v1, v2] ∧ RowV w v1 z1 ∧ z1.length * 8 ≤ 140737488351232 ∧ RowV w v2 z2 ∧ z2.length * 8 ≤ 140737488351232 := by
  obtain ⟨y0, y1, n, hx, hcl, t0, t1⟩ := trod_struct2 ht h
  obtain ⟨c0, c1, rfl⟩ := list_two (hcl.trans hct)
  rw [h0o, h0c] at t0
  rw [h1o, h1c] at t1
  rw [hx] at hR
  obtain ⟨v0, z0, e0, r0, b0, _⟩ := open_row h0s hg hgc hB (hR.part ht (j := 0) (f := f0) (d := y0.1) rfl rfl) t0
  obtain ⟨v1, z1, e1, r1, b1, _⟩ := open_row h1s hg hgc hB (hR.part ht (j := 1) (f := f1) (d := y1.1) rfl rfl) t1
  simp only [List.drop_zero, List.take_succ_cons, List.take_zero, List.drop_succ_cons, List.cons.injEq, and_true] at e0 e1
  subst e0 e1
  exact ⟨_, _, z0, z1, rfl, r0, b0, r1, b1⟩
theorem open_named {t g : TypeId} {f0 f1 f2 : Field} {fuel : Nat} {cs : List Value} {x : DataW H × List MemPlace} (ht : P.underlying t = some (.struct #[f0, f1, f2])) (hct : P.cellsOf t = 3)
    (h0s : P.underlying f0.type = some (.slice g)) (h0c : P.cellsOf f0.type = 1) (h0o : f0.offset = 0) (h1s : P.underlying f1.type = some (.slice g)) (h1c : P.cellsOf f1.type = 1) (h1o : f1.offset = 1)
    (h2i : P.underlying f2.type = some (.int .i64)) (h2c : P.cellsOf f2.type = 1) (h2o : f2.offset = 2)
    (hg : P.underlying g = some (.int .i64)) (hgc : P.cellsOf g = 1) (hB : P.bytesOf g = 8) (hR : Reach P t x.1) (h : DataW.trod enc P w base spare held fuel t cs = some x) :
    ∃ v1 v2 z1 z2 d, cs = [v1, v2, .int .i64 d] ∧ RowV w v1 z1 ∧ z1.length * 8 ≤ 140737488351232 ∧ RowV w v2 z2 ∧ z2.length * 8 ≤ 140737488351232 ∧ (Lit.int .i64 d).wf = true := by
  obtain ⟨y0, y1, y2, n, hx, hcl, t0, t1, t2⟩ := Go.Deep.trod_struct3 ht h
  obtain ⟨c0, c1, c2, rfl⟩ := list_three (hcl.trans hct)
  rw [h0o, h0c] at t0
  rw [h1o, h1c] at t1
  rw [h2o, h2c] at t2
  rw [hx] at hR
  obtain ⟨v0, z0, e0, r0, b0, _⟩ := open_row h0s hg hgc hB (hR.part ht (j := 0) (f := f0) (d := y0.1) rfl rfl) t0
  obtain ⟨v1, z1, e1, r1, b1, _⟩ := open_row h1s hg hgc hB (hR.part ht (j := 1) (f := f1) (d := y1.1) rfl rfl) t1
  obtain ⟨d, e2, _, wd⟩ := DataW.trod_int h2i t2
  simp only [List.drop_zero, List.take_succ_cons, List.take_zero, List.drop_succ_cons, List.cons.injEq, and_true] at e0 e1 e2
  subst e0 e1 e2
  exact ⟨_, _, z0, z1, d, rfl, r0, b0, r1, b1, wd⟩
theorem open_kept {t g be : TypeId} {f0 f1 f2 f3 f4 g0 g1 : Field} {fuel : Nat} {cs : List Value} {x : DataW H × List MemPlace} (ht : P.underlying t = some (.struct #[f0, f1, f2, f3, f4])) (hct : P.cellsOf t = 5)
    (h0s : P.underlying f0.type = some (.slice g)) (h0c : P.cellsOf f0.type = 1) (h0o : f0.offset = 0) (h1s : P.underlying f1.type = some (.slice g)) (h1c : P.cellsOf f1.type = 1) (h1o : f1.offset = 1)
    (h2s : P.underlying f2.type = some (.slice be)) (h2c : P.cellsOf f2.type = 1) (h2o : f2.offset = 2) (h3s : P.underlying f3.type = some (.slice g)) (h3c : P.cellsOf f3.type = 1) (h3o : f3.offset = 3)
    (h4i : P.underlying f4.type = some (.int .i64)) (h4c : P.cellsOf f4.type = 1) (h4o : f4.offset = 4)
    (hg : P.underlying g = some (.int .i64)) (hgc : P.cellsOf g = 1) (hB : P.bytesOf g = 8)
    (hbe : P.underlying be = some (.struct #[g0, g1])) (hbc : P.cellsOf be = 2) (hBe : P.bytesOf be = 32) (g0s : P.underlying g0.type = some (.int .i64)) (g0c : P.cellsOf g0.type = 1) (g0o : g0.offset = 0) (g1i : P.underlying g1.type = some (.slice g)) (g1c : P.cellsOf g1.type = 1) (g1o : g1.offset = 1)
    (hR : Reach P t x.1) (h : DataW.trod enc P w base spare held fuel t cs = some x) :
    ∃ v1 v2 v3 v4 z1 z2 s z4 d, cs = [v1, v2, v3, v4, .int .i64 d] ∧ RowV w v1 z1 ∧ z1.length * 8 ≤ 140737488351232 ∧ RowV w v2 z2 ∧ z2.length * 8 ≤ 140737488351232 ∧
      (∃ A cap, v3 = .slice A s.length cap ∧ s.length ≤ cap ∧ (A = none → s.length = 0 ∧ cap = 0) ∧ s.length * 32 ≤ 140737488351232 ∧ Binds w A s) ∧ RowV w v4 z4 ∧ z4.length * 8 ≤ 140737488351232 ∧ (Lit.int .i64 d).wf = true := by
  obtain ⟨xs, n, _, hx, hcl, hlen, hf⟩ := DataW.trod_struct ht h
  obtain ⟨c0, c1, c2, c3, c4, rfl⟩ := list_five (hcl.trans hct)
  obtain ⟨y0, y1, y2, y3, y4, rfl⟩ := list_five hlen
  have t0 := hf 0 f0 rfl
  have t1 := hf 1 f1 rfl
  have t2 := hf 2 f2 rfl
  have t3 := hf 3 f3 rfl
  have t4 := hf 4 f4 rfl
  rw [h0o, h0c] at t0
  rw [h1o, h1c] at t1
  rw [h2o, h2c] at t2
  rw [h3o, h3c] at t3
  rw [h4o, h4c] at t4
  rw [hx] at hR
  obtain ⟨v0, z0, e0, r0, b0, _⟩ := open_row h0s hg hgc hB (hR.part ht (j := 0) (f := f0) (d := y0.1) rfl rfl) (t0.trans rfl)
  obtain ⟨v1, z1, e1, r1, b1, _⟩ := open_row h1s hg hgc hB (hR.part ht (j := 1) (f := f1) (d := y1.1) rfl rfl) (t1.trans rfl)
  obtain ⟨A, cap, s, e2, r2⟩ := open_binds h2s hbe hbc hBe g0s g0c g0o g1i g1c g1o hg hgc hB (hR.part ht (j := 2) (f := f2) (d := y2.1) rfl rfl) (t2.trans rfl)
  obtain ⟨v3, z3, e3, r3, b3, _⟩ := open_row h3s hg hgc hB (hR.part ht (j := 3) (f := f3) (d := y3.1) rfl rfl) (t3.trans rfl)
  obtain ⟨d, e4, _, wd⟩ := DataW.trod_int h4i (t4.trans rfl)
  simp only [List.drop_zero, List.take_succ_cons, List.take_zero, List.drop_succ_cons, List.cons.injEq, and_true] at e0 e1 e2 e3 e4
  subst e0 e1 e2 e3 e4
  exact ⟨_, _, _, _, z0, z1, s, z3, d, rfl, r0, b0, r1, b1, ⟨A, cap, rfl, r2⟩, r3, b3, wd⟩
end
end Go.Proofs.YtfelhlffiiephaaDoor
