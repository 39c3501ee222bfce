/- What a reading of equations, of equations with an algebra, and of lemmas says of memory. Conditions: none. -/
import Derived.Test.YtfelhlffiiephaaDoorOpenF
import Derived.Test.YtfelhlffiiephaaDoorRules
import Derived.Test.YtfelhlffiiephaaDoorBulk
set_option linter.unusedVariables false
set_option linter.unusedSimpArgs false
namespace Go.Proofs.YtfelhlffiiephaaDoor
open Go.ChangeShapes Go.WideShapes Go.ChangeAt Go.RowKit

section
variable {H : Type} {enc : TypeId × Value → H} {P : Program} {w : World} {base : Nat} {spare : Nat → Bool} {held : Bool}
/-- How many elements a slice's datum has. -/
def LenD (d : DataW H) (n : Nat) : Prop := d = .nil ∧ n = 0 ∨ ∃ (el : List (DataW H)) (sp : List (DataW H)), d = .slice el sp ∧ el.length = n
theorem len_bulk {d : DataW H} {n : Nat} (h : LenD d n) : n ≤ Rows.uptoBulk d := by
  rcases h with ⟨_, rfl⟩ | ⟨el, sp, rfl, h⟩
  · simp
  · have := bulks.slice_le el sp
    omega
theorem list_four {α : Type} {cs : List α} (h : cs.length = 4) : ∃ x y z u, cs = [x, y, z, u] := by
  match cs, h with
  | [x, y, z, u], _ => exact ⟨x, y, z, u, rfl⟩
theorem reach_in {t e : TypeId} {d : DataW H} {len i : Nat} {ys : List (DataW H × List MemPlace)} {y : DataW H × List MemPlace} (ht : P.underlying t = some (.slice e)) (hR : Reach P t d) (hx : d = .nil ∧ len = 0 ∨ ∃ sp, d = .slice (ys.map (·.1)) sp) (hi : i < len) (hy : ys[i]? = some y) : Reach P e y.1 := by
  rcases hx with ⟨_, h0⟩ | ⟨sp, hx⟩
  · omega
  · rw [hx] at hR
    exact hR.elem ht (List.mem_map.2 ⟨y, List.mem_of_getElem? hy, rfl⟩)
theorem reach_len {t e : TypeId} {d : DataW H} {len n : Nat} {ys : List (DataW H × List MemPlace)} (ht : P.underlying t = some (.slice e)) (hR : Reach P t d) (hx : d = .nil ∧ len = 0 ∨ ∃ sp, d = .slice (ys.map (·.1)) sp) (hyl : ys.length = len) (hB : P.bytesOf e = n) : len * n ≤ 140737488351232 := by
  rcases hx with ⟨_, rfl⟩ | ⟨sp, hx⟩
  · simp
  · rw [hx] at hR
    have := hR.len ht
    rw [hB] at this
    simp only [List.length_map] at this
    exact Nat.le_trans (Nat.mul_le_mul_right n (by omega)) this
theorem len_of {d : DataW H} {len : Nat} {ys : List (DataW H × List MemPlace)} (hx : d = .nil ∧ len = 0 ∨ ∃ sp, d = .slice (ys.map (·.1)) sp) (hyl : ys.length = len) : LenD d len := by
  rcases hx with ⟨h1, h2⟩ | ⟨sp, hx⟩
  · exact .inl ⟨h1, h2⟩
  · exact .inr ⟨_, sp, hx, by simpa using hyl⟩
theorem open_rules {t e g : TypeId} {f0 f1 : Field} {fuel : Nat} {cs : List Value} {x : DataW H × List MemPlace} (ht : P.underlying t = some (.slice e)) (he : P.underlying e = some (.struct #[f0, f1])) (hc : P.cellsOf e = 2) (hBe : P.bytesOf e = 48)
    (h0s : P.underlying f0.type = some (.slice g)) (h0c : P.cellsOf f0.type = 1) (h0o : f0.offset = 0) (h1s : P.underlying f1.type = some (.slice g)) (h1c : P.cellsOf f1.type = 1) (h1o : f1.offset = 1)
    (hg : P.underlying g = some (.int .i64)) (hgc : P.cellsOf g = 1) (hB : P.bytesOf g = 8) (hR : Reach P t x.1) (h : DataW.trod enc P w base spare held fuel t cs = some x) :
    ∃ A cap rs, cs = [.slice A rs.length cap] ∧ rs.length ≤ cap ∧ (A = none → rs.length = 0 ∧ cap = 0) ∧ Rules w A rs ∧ LenD x.1 rs.length := by
  obtain ⟨A, len, cap, m, ys, rfl, hl, hm, hn, hyl, hx, hel⟩ := open_any ht (by omega) h
  have h48 := reach_len ht hR hx hyl hBe
  obtain ⟨zs, hz, hzs⟩ := choose_list rl0 len (fun i z => ∃ b off, A = some ⟨b, off, none⟩ ∧ ∃ u v, w.cell? ⟨b, off + i * 2, none⟩ = some u ∧ RowV w u z.1 ∧ w.cell? ⟨b, off + i * 2 + 1, none⟩ = some v ∧ RowV w v z.2) (fun i hi => by
    obtain ⟨b, off, hA, hcs⟩ := hel (by omega)
    obtain ⟨cs, y, hlc, hj, hy, hyi⟩ := hcs i hi
    rw [hc] at hj
    obtain ⟨v1, v2, z1, z2, rfl, r1, _, r2, _⟩ := open_rule he hc h0s h0c h0o h1s h1c h1o hg hgc hB (reach_in ht hR hx hi hyi) hy
    exact ⟨(z1, z2), b, off, hA, v1, v2, by have := hj 0 (by omega); simpa using this, r1, by have := hj 1 (by omega); simpa using this, r2⟩)
  subst hz
  refine ⟨A, cap, zs, rfl, hl, hn, ⟨by omega, fun h0 => ?_⟩, len_of hx hyl⟩
  obtain ⟨b, off, hA, _⟩ := hel h0
  refine ⟨b, off, hA, fun k hk => ?_⟩
  obtain ⟨b', off', hA', u, v, h1, h2, h3, h4⟩ := hzs k hk
  rw [hA] at hA'
  cases hA'
  exact ⟨u, v, h1, h2, h3, h4⟩
theorem open_steps {t e be g : TypeId} {f0 f1 f2 f3 g0 g1 : Field} {fuel : Nat} {cs : List Value} {x : DataW H × List MemPlace} (ht : P.underlying t = some (.slice e)) (he : P.underlying e = some (.struct #[f0, f1, f2, f3])) (hc : P.cellsOf e = 4) (hBe : P.bytesOf e = 48)
    (h0s : P.underlying f0.type = some (.int .i64)) (h0c : P.cellsOf f0.type = 1) (h0o : f0.offset = 0) (h1s : P.underlying f1.type = some .bool) (h1c : P.cellsOf f1.type = 1) (h1o : f1.offset = 1)
    (h2s : P.underlying f2.type = some (.int .i64)) (h2c : P.cellsOf f2.type = 1) (h2o : f2.offset = 2) (h3s : P.underlying f3.type = some (.slice be)) (h3c : P.cellsOf f3.type = 1) (h3o : f3.offset = 3)
    (hbe : P.underlying be = some (.struct #[g0, g1])) (hbc : P.cellsOf be = 2) (hBb : P.bytesOf be = 32) (g0s : P.underlying g0.type = some (.int .i64)) (g0c : P.cellsOf g0.type = 1) (g0o : g0.offset = 0) (g1i : P.underlying g1.type = some (.slice g)) (g1c : P.cellsOf g1.type = 1) (g1o : g1.offset = 1)
    (hg : P.underlying g = some (.int .i64)) (hgc : P.cellsOf g = 1) (hB : P.bytesOf g = 8) (hR : Reach P t x.1) (h : DataW.trod enc P w base spare held fuel t cs = some x) :
    ∃ A cap ss, cs = [.slice A ss.length cap] ∧ Steps w A ss := by
  obtain ⟨A, len, cap, m, ys, rfl, hl, hm, hn, hyl, hx, hel⟩ := open_any ht (by omega) h
  have h48 := reach_len ht hR hx hyl hBe
  obtain ⟨zs, hz, hzs⟩ := choose_list stp0 len (fun i z => ∃ b off, A = some ⟨b, off, none⟩ ∧ (-9223372036854775808 ≤ z.eq ∧ z.eq ≤ 9223372036854775807) ∧ (-9223372036854775808 ≤ z.at_ ∧ z.at_ ≤ 9223372036854775807) ∧
      w.cell? ⟨b, off + i * 4, none⟩ = some (.int .i64 z.eq) ∧ w.cell? ⟨b, off + i * 4 + 1, none⟩ = some (.bool z.back) ∧ w.cell? ⟨b, off + i * 4 + 2, none⟩ = some (.int .i64 z.at_) ∧ ∃ B c, w.cell? ⟨b, off + i * 4 + 3, none⟩ = some (.slice B z.binds.length c) ∧ Binds w B z.binds) (fun i hi => by
    obtain ⟨b, off, hA, hcs⟩ := hel (by omega)
    obtain ⟨cs, y, hlc, hj, hy, hyi⟩ := hcs i hi
    have hRy := reach_in ht hR hx hi hyi
    rw [hc] at hlc hj
    obtain ⟨xs, n, _, hya, hcl, hlen, hf⟩ := DataW.trod_struct he hy
    obtain ⟨c0, c1, c2, c3, rfl⟩ := list_four hlc
    obtain ⟨y0, y1, y2, y3, rfl⟩ := list_four hlen
    have t0 := hf 0 f0 rfl
    have t1 := hf 1 f1 rfl
    have t2 := hf 2 f2 rfl
    have t3 := hf 3 f3 rfl
    rw [h0o, h0c] at t0
    rw [h1o, h1c] at t1
    rw [h2o, h2c] at t2
    rw [h3o, h3c] at t3
    rw [hya] at hRy
    obtain ⟨a0, e0, _, w0⟩ := DataW.trod_int h0s (t0.trans rfl)
    obtain ⟨a1, e1, _⟩ := DataW.trod_bool h1s (t1.trans rfl)
    obtain ⟨a2, e2, _, w2⟩ := DataW.trod_int h2s (t2.trans rfl)
    obtain ⟨B, c, s, e3, _, _, _, r3⟩ := open_binds h3s hbe hbc hBb g0s g0c g0o g1i g1c g1o hg hgc hB (hRy.part he (j := 3) (f := f3) (d := y3.1) rfl rfl) (t3.trans rfl)
    simp only [List.drop_zero, List.take_succ_cons, List.take_zero, List.drop_succ_cons, List.cons.injEq, and_true] at e0 e1 e2 e3
    subst e0 e1 e2 e3
    exact ⟨⟨a0, a1, a2, s⟩, b, off, hA, wf_range w0, wf_range w2, by have := hj 0 (by omega); simpa using this, by have := hj 1 (by omega); simpa using this, by have := hj 2 (by omega); simpa using this, B, c, by have := hj 3 (by omega); simpa using this, r3⟩)
  subst hz
  refine ⟨A, cap, zs, rfl, by omega, fun h0 => ?_⟩
  obtain ⟨b, off, hA, _⟩ := hel h0
  refine ⟨b, off, hA, fun k hk => ?_⟩
  obtain ⟨b', off', hA', r⟩ := hzs k hk
  rw [hA] at hA'
  cases hA'
  exact r
theorem open_lemmas {t l e be g : TypeId} {l0 l1 l2 f0 f1 f2 f3 g0 g1 : Field} {fuel : Nat} {cs : List Value} {x : DataW H × List MemPlace} (ht : P.underlying t = some (.slice l)) (hlu : P.underlying l = some (.struct #[l0, l1, l2])) (hlc : P.cellsOf l = 3) (hBl : P.bytesOf l = 72)
    (l0s : P.underlying l0.type = some (.slice g)) (l0c : P.cellsOf l0.type = 1) (l0o : l0.offset = 0) (l1s : P.underlying l1.type = some (.slice g)) (l1c : P.cellsOf l1.type = 1) (l1o : l1.offset = 1) (l2s : P.underlying l2.type = some (.slice e)) (l2c : P.cellsOf l2.type = 1) (l2o : l2.offset = 2)
    (he : P.underlying e = some (.struct #[f0, f1, f2, f3])) (hc : P.cellsOf e = 4) (hBe : P.bytesOf e = 48)
    (h0s : P.underlying f0.type = some (.int .i64)) (h0c : P.cellsOf f0.type = 1) (h0o : f0.offset = 0) (h1s : P.underlying f1.type = some .bool) (h1c : P.cellsOf f1.type = 1) (h1o : f1.offset = 1)
    (h2s : P.underlying f2.type = some (.int .i64)) (h2c : P.cellsOf f2.type = 1) (h2o : f2.offset = 2) (h3s : P.underlying f3.type = some (.slice be)) (h3c : P.cellsOf f3.type = 1) (h3o : f3.offset = 3)
    (hbe : P.underlying be = some (.struct #[g0, g1])) (hbc : P.cellsOf be = 2) (hBb : P.bytesOf be = 32) (g0s : P.underlying g0.type = some (.int .i64)) (g0c : P.cellsOf g0.type = 1) (g0o : g0.offset = 0) (g1i : P.underlying g1.type = some (.slice g)) (g1c : P.cellsOf g1.type = 1) (g1o : g1.offset = 1)
    (hg : P.underlying g = some (.int .i64)) (hgc : P.cellsOf g = 1) (hB : P.bytesOf g = 8) (hR : Reach P t x.1) (h : DataW.trod enc P w base spare held fuel t cs = some x) :
    ∃ A cap ls, cs = [.slice A ls.length cap] ∧ Lemmas w A ls ∧ LenD x.1 ls.length := by
  obtain ⟨A, len, cap, m, ys, rfl, hl, hm, hn, hyl, hx, hel⟩ := open_any ht (by omega) h
  have h72 := reach_len ht hR hx hyl hBl
  obtain ⟨zs, hz, hzs⟩ := choose_list lem0 len (fun i z => ∃ b off, A = some ⟨b, off, none⟩ ∧ ∃ u v B c, w.cell? ⟨b, off + i * 3, none⟩ = some u ∧ RowV w u z.L ∧ w.cell? ⟨b, off + i * 3 + 1, none⟩ = some v ∧ RowV w v z.R ∧ w.cell? ⟨b, off + i * 3 + 2, none⟩ = some (.slice B z.steps.length c) ∧ Steps w B z.steps) (fun i hi => by
    obtain ⟨b, off, hA, hcs⟩ := hel (by omega)
    obtain ⟨cs, y, hlc', hj, hy, hyi⟩ := hcs i hi
    have hRy := reach_in ht hR hx hi hyi
    rw [hlc] at hlc' hj
    obtain ⟨y0, y1, y2, n, hya, _, t0, t1, t2⟩ := Go.Deep.trod_struct3 hlu hy
    obtain ⟨c0, c1, c2, rfl⟩ := list_three hlc'
    rw [l0o, l0c] at t0
    rw [l1o, l1c] at t1
    rw [l2o, l2c] at t2
    rw [hya] at hRy
    obtain ⟨v0, z0, e0, r0, _, _⟩ := open_row l0s hg hgc hB (hRy.part hlu (j := 0) (f := l0) (d := y0.1) rfl rfl) t0
    obtain ⟨v1, z1, e1, r1, _, _⟩ := open_row l1s hg hgc hB (hRy.part hlu (j := 1) (f := l1) (d := y1.1) rfl rfl) t1
    obtain ⟨B, c, ss, e2, r2⟩ := open_steps l2s he hc hBe h0s h0c h0o h1s h1c h1o h2s h2c h2o h3s h3c h3o hbe hbc hBb g0s g0c g0o g1i g1c g1o hg hgc hB (hRy.part hlu (j := 2) (f := l2) (d := y2.1) rfl rfl) t2
    simp only [List.drop_zero, List.take_succ_cons, List.take_zero, List.drop_succ_cons, List.cons.injEq, and_true] at e0 e1 e2
    subst e0 e1 e2
    exact ⟨⟨z0, z1, ss⟩, b, off, hA, _, _, B, c, by have := hj 0 (by omega); simpa using this, r0, by have := hj 1 (by omega); simpa using this, r1, by have := hj 2 (by omega); simpa using this, r2⟩)
  subst hz
  refine ⟨A, cap, zs, rfl, ⟨by omega, fun h0 => ?_⟩, len_of hx hyl⟩
  obtain ⟨b, off, hA, _⟩ := hel h0
  refine ⟨b, off, hA, fun k hk => ?_⟩
  obtain ⟨b', off', hA', r⟩ := hzs k hk
  rw [hA] at hA'
  cases hA'
  exact r
/-- Equations, and an algebra. -/
theorem open_modelled {t e g rr : TypeId} {m0 m1 a0 a1 f0 f1 : Field} {fuel : Nat} {cs : List Value} {x : DataW H × List MemPlace} (ht : P.underlying t = some (.struct #[m0, m1])) (hct : P.cellsOf t = 3)
    (m0s : P.underlying m0.type = some (.slice e)) (m0c : P.cellsOf m0.type = 1) (m0o : m0.offset = 0) (m1s : P.underlying m1.type = some (.struct #[a0, a1])) (m1c : P.cellsOf m1.type = 2) (m1o : m1.offset = 1)
    (a0s : P.underlying a0.type = some (.int .i64)) (a0c : P.cellsOf a0.type = 1) (a0o : a0.offset = 0) (a1s : P.underlying a1.type = some (.slice rr)) (a1c : P.cellsOf a1.type = 1) (a1o : a1.offset = 1)
    (hrr : P.underlying rr = some (.slice g)) (hrc : P.cellsOf rr = 1) (hBr : P.bytesOf rr = 24)
    (he : P.underlying e = some (.struct #[f0, f1])) (hc : P.cellsOf e = 2) (hBe : P.bytesOf e = 48)
    (h0s : P.underlying f0.type = some (.slice g)) (h0c : P.cellsOf f0.type = 1) (h0o : f0.offset = 0) (h1s : P.underlying f1.type = some (.slice g)) (h1c : P.cellsOf f1.type = 1) (h1o : f1.offset = 1)
    (hg : P.underlying g = some (.int .i64)) (hgc : P.cellsOf g = 1) (hB : P.bytesOf g = 8) (hR : Reach P t x.1) (h : DataW.trod enc P w base spare held fuel t cs = some x) :
    ∃ A cap rs M B c lins y0 y1, cs = [.slice A rs.length cap, .int .i64 M, .slice B lins.length c] ∧ x.1 = .agg [y0, y1] ∧ rs.length ≤ cap ∧ (A = none → rs.length = 0 ∧ cap = 0) ∧ Rules w A rs ∧ LenD (H := H) y0 rs.length ∧ (-9223372036854775808 ≤ M ∧ M ≤ 9223372036854775807) ∧ RowsIn w B lins := by
  obtain ⟨y0, y1, n, hx, hcl, t0, t1⟩ := trod_struct2 ht h
  obtain ⟨c0, c1, c2, rfl⟩ := list_three (hcl.trans hct)
  rw [m0o, m0c] at t0
  rw [m1o, m1c] at t1
  rw [hx] at hR
  obtain ⟨A, cap, rs, e0, r1, r2, r3, r4⟩ := open_rules m0s he hc hBe h0s h0c h0o h1s h1c h1o hg hgc hB (hR.part ht (j := 0) (f := m0) (d := y0.1) rfl rfl) t0
  have hR1 : Reach P m1.type y1.1 := hR.part ht (j := 1) (f := m1) (d := y1.1) rfl rfl
  obtain ⟨z0, z1, n', hx', hcl', u0, u1⟩ := trod_struct2 m1s t1
  rw [hx'] at hR1
  rw [a0o, a0c] at u0
  rw [a1o, a1c] at u1
  obtain ⟨M, e1, _, wM⟩ := DataW.trod_int a0s u0
  obtain ⟨B, c, lins, e2, _, _, _, s1, _⟩ := open_rows a1s hrr hrc hBr hg hgc hB (hR1.part m1s (j := 1) (f := a1) (d := z1.1) rfl rfl) u1
  simp only [List.drop_zero, List.take_succ_cons, List.take_zero, List.drop_succ_cons, List.cons.injEq, and_true] at e0 e1 e2
  subst e0 e1 e2
  exact ⟨A, cap, rs, M, B, c, lins, _, _, rfl, by rw [hx], r1, r2, r3, r4, wf_range wM, s1⟩
end
end Go.Proofs.YtfelhlffiiephaaDoor
