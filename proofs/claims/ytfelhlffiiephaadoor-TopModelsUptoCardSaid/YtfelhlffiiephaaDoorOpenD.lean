/- What a reading of signatures, binds, rows and lists of rows says of memory. Conditions: none. -/
import Derived.Test.YtfelhlffiiephaaDoorCanon
import Derived.Test.YtfelhlffiiephaaDoorOpen
import Derived.ChangeSame
set_option linter.unusedVariables false
set_option linter.unusedSimpArgs false
namespace Go.Proofs.YtfelhlffiiephaaDoor
open Go.ChangeShapes Go.WideShapes Go.ChangeAt Go.RowKit

section
variable {H : Type} {enc : TypeId × Value → H} {P : Program} {w : World} {base : Nat} {spare : Nat → Bool} {held : Bool}

/-- No part is greater than the form's reach. -/
def Reach (P : Program) (t : TypeId) (d : DataW H) : Prop := ∀ n ∈ d.weights P t, n ≤ 140737488351232
theorem reach_arg {ts : List TypeId} {ds : List (DataW H)} {j : Nat} {t : TypeId} {d : DataW H} (h : (DataW.weightsEach P ts ds).all (· ≤ reachBytes) = true) (ht : ts[j]? = some t) (hd : ds[j]? = some d) : Reach P t d := fun n hn => by
  have := List.all_eq_true.1 h _ (DataW.weights_mem_each ht hd n hn)
  exact Nat.le_trans (of_decide_eq_true this) (by decide)
theorem mem_weightsAll {e : TypeId} : ∀ {l : List (DataW H)} {d : DataW H} {n : Nat}, d ∈ l → n ∈ d.weights P e → n ∈ DataW.weightsAll P e l
  | x :: l, d, n, hd, hn => by
    simp only [DataW.weightsAll, List.mem_append]
    rcases List.mem_cons.1 hd with rfl | hd
    · exact .inl hn
    · exact .inr (mem_weightsAll hd hn)
theorem Reach.elem {t e : TypeId} {elems sp : List (DataW H)} (h : Reach P t (.slice elems sp)) (ht : P.underlying t = some (.slice e)) {d : DataW H} (hd : d ∈ elems) : Reach P e d := fun n hn =>
  h n (by simp only [DataW.weights, ht, List.mem_cons, List.mem_append]; exact .inr (.inl (mem_weightsAll hd hn)))
theorem Reach.len {t e : TypeId} {elems sp : List (DataW H)} (h : Reach P t (.slice elems sp)) (ht : P.underlying t = some (.slice e)) : (elems.length + sp.length) * P.bytesOf e ≤ 140737488351232 :=
  h _ (by simp only [DataW.weights, ht, List.mem_cons, true_or])
theorem Reach.part {t : TypeId} {fs : Array Field} {parts : List (DataW H)} (h : Reach P t (.agg parts)) (ht : P.underlying t = some (.struct fs)) {j : Nat} {f : Field} {d : DataW H} (hf : fs.toList[j]? = some f) (hd : parts[j]? = some d) : Reach P f.type d := fun n hn =>
  h n (by simp only [DataW.weights, ht]; exact DataW.weights_mem_each (by simp [hf]) hd n hn)

/-- A slice, whatever its elements are, and its datum. -/
theorem open_any {t e : TypeId} {fuel : Nat} {cs : List Value} {x : DataW H × List MemPlace} (ht : P.underlying t = some (.slice e)) (hpos : 0 < P.cellsOf e) (h : DataW.trod enc P w base spare held fuel t cs = some x) :
    ∃ (A : Option Addr) (len cap m : Nat) (ys : List (DataW H × List MemPlace)), cs = [.slice A len cap] ∧ len ≤ cap ∧ cap ≤ maxLen ∧ (A = none → len = 0 ∧ cap = 0) ∧ ys.length = len ∧ (x.1 = .nil ∧ len = 0 ∨ ∃ sp, x.1 = .slice (ys.map (·.1)) sp) ∧
      (0 < len → ∃ b off, A = some ⟨b, off, none⟩ ∧ ∀ i, i < len → ∃ cs y, cs.length = P.cellsOf e ∧ (∀ j, j < P.cellsOf e → w.cell? ⟨b, off + i * P.cellsOf e + j, none⟩ = cs[j]?) ∧ DataW.trod enc P w base spare held m e cs = some y ∧ ys[i]? = some y) := by
  rcases DataW.trod_slice ht h with ⟨rfl, rfl⟩ | ⟨a, len, cap, elems, rest, n, _, rfl, hx, hb, hl, hm, hlen, hel, _⟩
  · exact ⟨none, 0, 0, 0, [], rfl, by omega, by simp [maxLen], (fun _ => ⟨rfl, rfl⟩), rfl, .inl ⟨rfl, rfl⟩, fun h => by omega⟩
  · have each : ∀ i, i < len → ∃ cs y, cs.length = P.cellsOf e ∧ (∀ j, j < P.cellsOf e → w.cell? ((a.add (i * P.cellsOf e)).add j) = cs[j]?) ∧ DataW.trod enc P w base spare held n e cs = some y ∧ elems[i]? = some y := by
      intro i hi
      have h1 := hel i hi
      rw [List.getElem?_eq_getElem (by omega)] at h1
      obtain ⟨cs, hc1, hc2⟩ := Option.bind_eq_some_iff.1 h1
      obtain ⟨_, hc3, hc4⟩ := cells?_spec hc1
      exact ⟨cs, _, hc3, hc4, hc2, List.getElem?_eq_getElem (by omega)⟩
    refine ⟨some a, len, cap, n, elems, rfl, hl, hm, (fun h => by cases h), hlen, .inr ⟨_, by rw [hx]⟩, fun h0 => ?_⟩
    have hspot : a = ⟨a.block, a.off, none⟩ := by
      obtain ⟨cs, y, hc, hj, _⟩ := each 0 h0
      have h2 := hj 0 hpos
      rw [List.getElem?_eq_getElem (by omega)] at h2
      have e : (a.add (0 * P.cellsOf e)).add 0 = a := by simp [Addr.add]
      rw [e] at h2
      exact spot_of_cell h2
    refine ⟨a.block, a.off, congrArg some hspot, fun i hi => ?_⟩
    obtain ⟨cs, y, hc, hj, hy, hyi⟩ := each i hi
    refine ⟨cs, y, hc, fun j hjj => ?_, hy, hyi⟩
    rw [← hj j hjj]
    congr 1
    rw [hspot]
    unfold Addr.add
    by_cases q : i * P.cellsOf e = 0 <;> by_cases q2 : j = 0 <;> simp [q, q2]
/-- Choosing something for each place. -/
theorem choose_list {α : Type} (d : α) (len : Nat) (R : Nat → α → Prop) (h : ∀ i, i < len → ∃ a, R i a) : ∃ l : List α, l.length = len ∧ ∀ i, i < len → R i (l.getD i d) := by
  have each : ∀ i, ∃ a, i < len → R i a := fun i => by
    by_cases hi : i < len
    · obtain ⟨a, ha⟩ := h i hi; exact ⟨a, fun _ => ha⟩
    · exact ⟨d, fun h => absurd h hi⟩
  obtain ⟨F, hF⟩ := Classical.axiomOfChoice each
  refine ⟨(List.range len).map F, by simp, fun i hi => ?_⟩
  have e : ((List.range len).map F).getD i d = F i := by simp [List.getD_eq_getElem?_getD, hi]
  rw [e]; exact hF i hi
theorem mem_getD {α : Type} {l : List α} {d x : α} (h : x ∈ l) : ∃ i, i < l.length ∧ l.getD i d = x := by
  obtain ⟨i, hi, rfl⟩ := List.getElem_of_mem h
  exact ⟨i, hi, by simp [List.getD_eq_getElem?_getD, List.getElem?_eq_getElem hi]⟩
theorem wf_range {n : Int} (h : (Lit.int .i64 n).wf = true) : -9223372036854775808 ≤ n ∧ n ≤ 9223372036854775807 := by
  simpa [Lit.wf, IntKind.min, IntKind.max, IntKind.signed, IntKind.bits] using h

/-- A row of numbers. -/
theorem open_row {t e : TypeId} {fuel : Nat} {cs : List Value} {x : DataW H × List MemPlace} (ht : P.underlying t = some (.slice e)) (he : P.underlying e = some (.int .i64)) (hc : P.cellsOf e = 1) (hB : P.bytesOf e = 8) (hR : Reach P t x.1)
    (h : DataW.trod enc P w base spare held fuel t cs = some x) : ∃ v zs, cs = [v] ∧ RowV w v zs ∧ zs.length * 8 ≤ 140737488351232 ∧ (x.1 = .nil ∧ zs = [] ∨ ∃ (el : List (DataW H)) (sp : List (DataW H)), x.1 = .slice el sp ∧ el.length = zs.length) := by
  obtain ⟨A, len, cap, m, ys, rfl, hl, hm, hn, hyl, hx, hel⟩ := open_any ht (by omega) h
  have h8 : len * 8 ≤ 140737488351232 := by
    rcases hx with ⟨_, rfl⟩ | ⟨sp, hx⟩
    · simp
    · rw [hx] at hR
      have := hR.len ht
      rw [hB] at this
      simp only [List.length_map] at this
      omega
  obtain ⟨zs, hz, hzs⟩ := choose_list (0 : Int) len (fun i z => ∃ b off, A = some ⟨b, off, none⟩ ∧ w.cell? ⟨b, off + i, none⟩ = some (.int .i64 z) ∧ (Lit.int .i64 z).wf = true) (fun i hi => by
    obtain ⟨b, off, hA, hcs⟩ := hel (by omega)
    obtain ⟨cs, y, hlc, hj, hy, _⟩ := hcs i hi
    obtain ⟨n, rfl, _, wn⟩ := DataW.trod_int he hy
    rw [hc] at hj
    exact ⟨n, b, off, hA, by have := hj 0 (by omega); simpa using this, wn⟩)
  subst hz
  refine ⟨_, zs, rfl, ⟨A, cap, rfl, hl, hn, by omega, fun z hz => ?_, by omega, fun h0 => ?_⟩, ?_, ?_⟩
  · obtain ⟨i, hi, rfl⟩ := mem_getD (d := 0) hz
    obtain ⟨_, _, _, _, wz⟩ := hzs i hi
    exact wf_range wz
  · obtain ⟨b, off, hA, _⟩ := hel h0
    refine ⟨b, off, hA, fun k hk => ?_⟩
    obtain ⟨b', off', hA', hck, _⟩ := hzs k hk
    rw [hA] at hA'
    cases hA'
    exact hck
  · exact h8
  · rcases hx with ⟨h1, h2⟩ | ⟨sp, hx⟩
    · exact .inl ⟨h1, List.eq_nil_of_length_eq_zero h2⟩
    · exact .inr ⟨_, sp, hx, by simpa using hyl⟩

/-- A signature. -/
theorem open_sigs {t e : TypeId} {f0 f1 : Field} {fuel : Nat} {cs : List Value} {x : DataW H × List MemPlace} (ht : P.underlying t = some (.slice e)) (he : P.underlying e = some (.struct #[f0, f1])) (hc : P.cellsOf e = 2)
    (h0s : P.underlying f0.type = some .string) (h0c : P.cellsOf f0.type = 1) (h0o : f0.offset = 0) (h1i : P.underlying f1.type = some (.int .i64)) (h1c : P.cellsOf f1.type = 1) (h1o : f1.offset = 1)
    (h : DataW.trod enc P w base spare held fuel t cs = some x) : ∃ A cap l, cs = [.slice A l.length cap] ∧ l.length ≤ cap ∧ (A = none → l.length = 0 ∧ cap = 0) ∧ Sigs w A l := by
  obtain ⟨A, len, cap, m, ys, rfl, hl, hm, hn, hyl, hx, hel⟩ := open_any ht (by omega) h
  obtain ⟨zs, hz, hzs⟩ := choose_list sy0 len (fun i z => ∃ b off, A = some ⟨b, off, none⟩ ∧ w.cell? ⟨b, off + i * 2, none⟩ = some (.string z.1) ∧ w.cell? ⟨b, off + i * 2 + 1, none⟩ = some (.int .i64 z.2) ∧ z.1.size ≤ maxLen) (fun i hi => by
    obtain ⟨b, off, hA, hcs⟩ := hel (by omega)
    obtain ⟨cs, y, hlc, hj, hy, _⟩ := hcs i hi
    rw [hc] at hlc hj
    obtain ⟨c0, c1, rfl⟩ := list_two hlc
    obtain ⟨y0, y1, n, _, _, t0, t1⟩ := trod_struct2 he hy
    rw [h0o, h0c] at t0
    rw [h1o, h1c] at t1
    obtain ⟨s, e0, _, ws⟩ := DataW.trod_string h0s t0
    obtain ⟨a, e1, _, wa⟩ := DataW.trod_int h1i t1
    simp only [List.drop_zero, List.take_succ_cons, List.take_zero, List.drop_succ_cons, List.cons.injEq, and_true] at e0 e1
    refine ⟨(s, a), b, off, hA, ?_, ?_, ws⟩
    · have := hj 0 (by omega); simpa [e0] using this
    · have := hj 1 (by omega); simpa [e1] using this)
  subst hz
  refine ⟨A, cap, zs, rfl, hl, hn, fun z hz => ?_, by simp only [maxLen] at hm; omega, fun h0 => ?_⟩
  · obtain ⟨i, hi, rfl⟩ := mem_getD (d := sy0) hz
    obtain ⟨_, _, _, _, _, wz⟩ := hzs i hi
    simp only [maxLen] at wz
    omega
  · obtain ⟨b, off, hA, _⟩ := hel h0
    refine ⟨b, off, hA, fun k hk => ?_⟩
    obtain ⟨b', off', hA', h1, h2, _⟩ := hzs k hk
    rw [hA] at hA'
    cases hA'
    exact ⟨h1, h2⟩

/-- Binds. -/
theorem open_binds {t e g : TypeId} {f0 f1 : Field} {fuel : Nat} {cs : List Value} {x : DataW H × List MemPlace} (ht : P.underlying t = some (.slice e)) (he : P.underlying e = some (.struct #[f0, f1])) (hc : P.cellsOf e = 2) (hBe : P.bytesOf e = 32)
    (h0s : P.underlying f0.type = some (.int .i64)) (h0c : P.cellsOf f0.type = 1) (h0o : f0.offset = 0) (h1i : P.underlying f1.type = some (.slice g)) (h1c : P.cellsOf f1.type = 1) (h1o : f1.offset = 1)
    (hg : P.underlying g = some (.int .i64)) (hgc : P.cellsOf g = 1) (hB : P.bytesOf g = 8) (hR : Reach P t x.1)
    (h : DataW.trod enc P w base spare held fuel t cs = some x) : ∃ A cap s, cs = [.slice A s.length cap] ∧ s.length ≤ cap ∧ (A = none → s.length = 0 ∧ cap = 0) ∧ s.length * 32 ≤ 140737488351232 ∧ Binds w A s := by
  obtain ⟨A, len, cap, m, ys, rfl, hl, hm, hn, hyl, hx, hel⟩ := open_any ht (by omega) h
  have h32 : len * 32 ≤ 140737488351232 := by
    rcases hx with ⟨_, rfl⟩ | ⟨sp, hx⟩
    · simp
    · rw [hx] at hR
      have := hR.len ht
      rw [hBe] at this
      simp only [List.length_map] at this
      omega
  obtain ⟨zs, hz, hzs⟩ := choose_list bd0 len (fun i z => ∃ b off, A = some ⟨b, off, none⟩ ∧ w.cell? ⟨b, off + i * 2, none⟩ = some (.int .i64 z.1) ∧ (Lit.int .i64 z.1).wf = true ∧ ∃ u, w.cell? ⟨b, off + i * 2 + 1, none⟩ = some u ∧ RowV w u z.2) (fun i hi => by
    obtain ⟨b, off, hA, hcs⟩ := hel (by omega)
    obtain ⟨cs, y, hlc, hj, hy, hyi⟩ := hcs i hi
    rw [hc] at hlc hj
    obtain ⟨c0, c1, rfl⟩ := list_two hlc
    obtain ⟨y0, y1, n, hya, _, t0, t1⟩ := trod_struct2 he hy
    rw [h0o, h0c] at t0
    rw [h1o, h1c] at t1
    obtain ⟨a, e0, _, wa⟩ := DataW.trod_int h0s t0
    have hRy : Reach P e y.1 := by
      rcases hx with ⟨_, h0⟩ | ⟨sp, hx⟩
      · omega
      · rw [hx] at hR
        exact hR.elem ht (List.mem_map.2 ⟨y, List.mem_of_getElem? hyi, rfl⟩)
    rw [hya] at hRy
    have hR1 := hRy.part he (j := 1) (f := f1) (d := y1.1) rfl rfl
    obtain ⟨v, zs, e1, hv, _⟩ := open_row h1i hg hgc hB hR1 t1
    simp only [List.drop_zero, List.take_succ_cons, List.take_zero, List.drop_succ_cons, List.cons.injEq, and_true] at e0 e1
    refine ⟨(a, zs), b, off, hA, ?_, wa, v, ?_, hv⟩
    · have := hj 0 (by omega); simpa [e0] using this
    · have := hj 1 (by omega); simpa [e1] using this)
  subst hz
  refine ⟨A, cap, zs, rfl, hl, hn, h32, by omega, fun h0 => ?_⟩
  obtain ⟨b, off, hA, _⟩ := hel h0
  refine ⟨b, off, hA, fun k hk => ?_⟩
  obtain ⟨b', off', hA', h1, h2, u, h3, h4⟩ := hzs k hk
  rw [hA] at hA'
  cases hA'
  exact ⟨h1, wf_range h2, u, h3, h4⟩

/-- A list of rows. -/
theorem open_rows {t e g : TypeId} {fuel : Nat} {cs : List Value} {x : DataW H × List MemPlace} (ht : P.underlying t = some (.slice e)) (he : P.underlying e = some (.slice g)) (hc : P.cellsOf e = 1) (hBe : P.bytesOf e = 24)
    (hg : P.underlying g = some (.int .i64)) (hgc : P.cellsOf g = 1) (hB : P.bytesOf g = 8) (hR : Reach P t x.1)
    (h : DataW.trod enc P w base spare held fuel t cs = some x) : ∃ A cap l, cs = [.slice A l.length cap] ∧ l.length ≤ cap ∧ (A = none → l.length = 0 ∧ cap = 0) ∧ l.length * 24 ≤ 140737488351232 ∧ RowsIn w A l ∧
      (x.1 = .nil ∧ l = [] ∨ ∃ (el sp : List (DataW H)), x.1 = .slice el sp ∧ el.length = l.length ∧ ∀ k, k < l.length → ∃ d, el[k]? = some d ∧ (d = .nil ∧ l.getD k [] = [] ∨ ∃ (el' sp' : List (DataW H)), d = .slice el' sp' ∧ el'.length = (l.getD k []).length)) := by
  obtain ⟨A, len, cap, m, ys, rfl, hl, hm, hn, hyl, hx, hel⟩ := open_any ht (by omega) h
  have h24 : len * 24 ≤ 140737488351232 := by
    rcases hx with ⟨_, rfl⟩ | ⟨sp, hx⟩
    · simp
    · rw [hx] at hR
      have := hR.len ht
      rw [hBe] at this
      simp only [List.length_map] at this
      omega
  obtain ⟨zs, hz, hzs⟩ := choose_list ([] : List Int) len (fun i z => ∃ b off, A = some ⟨b, off, none⟩ ∧ ∃ u y, w.cell? ⟨b, off + i, none⟩ = some u ∧ RowV w u z ∧ ys[i]? = some y ∧ (y.1 = .nil ∧ z = [] ∨ ∃ (el' sp' : List (DataW H)), y.1 = .slice el' sp' ∧ el'.length = z.length)) (fun i hi => by
    obtain ⟨b, off, hA, hcs⟩ := hel (by omega)
    obtain ⟨cs, y, hlc, hj, hy, hyi⟩ := hcs i hi
    rw [hc] at hj
    have hRy : Reach P e y.1 := by
      rcases hx with ⟨_, h0⟩ | ⟨sp, hx⟩
      · omega
      · rw [hx] at hR
        exact hR.elem ht (List.mem_map.2 ⟨y, List.mem_of_getElem? hyi, rfl⟩)
    obtain ⟨v, z, rfl, hv, _, hd⟩ := open_row he hg hgc hB hRy hy
    exact ⟨z, b, off, hA, v, y, by have := hj 0 (by omega); simpa using this, hv, hyi, hd⟩)
  subst hz
  refine ⟨A, cap, zs, rfl, hl, hn, h24, ⟨by omega, fun h0 => ?_⟩, ?_⟩
  · obtain ⟨b, off, hA, _⟩ := hel h0
    refine ⟨b, off, hA, fun k hk => ?_⟩
    obtain ⟨b', off', hA', u, y, h1, h2, _⟩ := hzs k hk
    rw [hA] at hA'
    cases hA'
    exact ⟨u, h1, h2⟩
  · rcases hx with ⟨h1, h2⟩ | ⟨sp, hx⟩
    · exact .inl ⟨h1, List.eq_nil_of_length_eq_zero h2⟩
    · refine .inr ⟨_, sp, hx, by simpa using hyl, fun k hk => ?_⟩
      obtain ⟨_, _, _, u, y, _, _, hy, hd⟩ := hzs k hk
      exact ⟨y.1, by simp [hy], hd⟩
end
end Go.Proofs.YtfelhlffiiephaaDoor
